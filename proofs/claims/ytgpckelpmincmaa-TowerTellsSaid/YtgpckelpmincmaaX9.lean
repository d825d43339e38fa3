import Derived.Test.YtgpckelpmincmaaX8
section
set_option linter.unusedSimpArgs false
set_option linter.unusedVariables false
namespace Go.Proofs.Ytgpckelpmincmaa
set_option linter.unusedSimpArgs false
set_option linter.unusedVariables false
open Go.Bx
set_option maxRecDepth 10000
def putAll : List Int → List Int → List Int → List Int
  | out, i :: g, d :: ds => putAll (out.set i.toNat d) g ds
  | out, _, _ => out
theorem putAll_len : ∀ (g ds out : List Int), (putAll out g ds).length = out.length
  | [], _, _ => by simp [putAll]
  | _ :: _, [], _ => by simp [putAll]
  | i :: g, d :: ds, out => by rw [putAll, putAll_len g ds]; simp
def bearsF (t : Tr) (l : List Ls) : Int → List (List Int) → List Int → List Int
  | _, [], out => out
  | left, g :: r, out => bearsF t l (left - min left (partT t (amtsT l g).sum)) r (putAll out g (splitR (min left (partT t (amtsT l g).sum)) (amtsT l g)).1)
def bearsE (t : Tr) (l : List Ls) : List Int × Int :=
  if (t.kind != 3 || !(rightT t) || l.any (fun x => !(lossX x))) = true then ([], 1)
  else if 2000 < l.length then ([], 2)
  else (bearsF t l (roomT t) (eventsT t l) (List.replicate l.length 0), 0)
theorem amts_bounds {l : List Ls} (hl : ∀ x, x ∈ l → lossX x = true) : ∀ {g : List Int}, (∀ i, i ∈ g → 0 ≤ i ∧ i < (l.length : Int)) → (∀ a, a ∈ amtsT l g → 0 ≤ a ∧ a ≤ 1000000000000000) ∧ 0 ≤ (amtsT l g).sum ∧ (amtsT l g).sum ≤ 1000000000000000 * g.length
  | [], _ => by simp [amtsT]
  | i :: g, h => by
    have ih := amts_bounds hl (g := g) (fun j hj => h j (by simp [hj]))
    have hi := h i (by simp)
    have hlt : i.toNat < l.length := by omega
    have hm : l.getD i.toNat default ∈ l := by rw [List.getD_eq_getElem?_getD, List.getElem?_eq_getElem hlt]; exact List.getElem_mem hlt
    have ha := (lossX_iff.1 (hl _ hm)).2.2.2.2
    refine ⟨fun a hm' => ?_, ?_⟩
    · simp only [amtsT, List.map_cons, List.mem_cons] at hm'
      rcases hm' with rfl | hm'
      · exact ha
      · exact ih.1 a hm'
    · have := ih.2
      simp only [amtsT, List.map_cons, List.sum_cons, List.length_cons] at this ⊢
      omega
theorem split_len (m : Int) (l : List Int) : (splitR m l).1.length ≤ l.length ∧ ((splitR m l).2 ≠ 0 → (splitR m l).1 = []) := by
  unfold splitR
  split
  · simp
  · split
    · simp
    · split
      · simp
      · split
        · simp
        · simp [deal2_len, psums_len]
def gD (G : List (List Int)) : V := .d (.sl false 1 G.length (nestD 0 cI 1 G))
theorem part_nn (t : Tr) {amt : Int} (h0 : 0 ≤ amt) (h1 : amt ≤ 9000000000000000000) : 0 ≤ partT t amt := by
  unfold partT
  split
  · omega
  · rename_i h
    have h' : highT t = true ∧ ¬ amt ≤ t.att := by simpa using h
    have hb := high_bounds h'.1
    rw [wI (by omega)]
    omega
theorem putI {cur : List Int} {n i : Nat} {m : Int} (hi : i < cur.length) : (if i = n then putD [.int .i64 (cur.getD n 0)] 0 [.int .i64 m] else [.int .i64 (cur.getD i 0)] : List D) = [.int .i64 ((cur.set n m).getD i 0)] := by
  by_cases e : i = n
  · subst e; simp [putD, hi]
  · rw [if_neg e]; simp [List.getD_eq_getElem?_getD, List.getElem?_set_ne (fun g : n = i => e g.symm)]
set_option maxHeartbeats 4000000 in
theorem sBears (t : Tr) (l : List Ls) (hl : l.length ≤ 1000000) : Ctr Try.prog 48 [vT t, .d (slX l)] [] (.tup [.d (slK .i64 (bearsE t l).1), .d (.int .i64 (bearsE t l).2)]) [] [] := by
  have cr := s26 t
  have ce := sEvents t l hl
  have cm := s20 t
  simp only [vT, cT] at cr cm
  simp only [vT, cT, slX] at ce
  refine ctr_pure Try.func48 ok48 rfl cc48 cr48 Try.ntmps48 (by simp) rfl rfl ?_; intro c hP hfn; simp only [kc48, vT, cT, slX, vcb, ↓evSo_some, ↓reduceIte, reduceCtorEq, seval]
  repeat' first
      | (first
          | refine TR.p hP (by first | exact cr) (by repeat' first | exact trivial | (intro _; assumption) | apply And.intro) ?_
          | refine TR.gp hP rfl (fun _ => by first | exact cr) (fun _ => by repeat' first | exact trivial | (intro _; assumption) | apply And.intro) ?_
          | refine TR.pv hP rfl (by first | exact cr) trivial (by repeat' first | exact trivial | (intro _; assumption) | apply And.intro) ?_
         try simp only [vcb, ↓evSo_some, ↓reduceIte, reduceCtorEq, seval])
      | refine And.intro (fun h => ?_) (fun h => ?_)
      | refine And.intro (by first | omega | (simp only [maxLen, decide_eq_true_eq, decide_eq_false_iff_not] at *; omega)) ?_
      | (refine TR.aslO rfl rfl rfl rfl trivial (Nat.le_of_ble_eq_true rfl) ?_
         try simp only [vcb, ↓evSo_some, ↓reduceIte, reduceCtorEq, seval])
      | refine And.intro trivial ?_
      | refine And.intro rfl ?_
      | fail
  · have e : bearsE t l = ([], 1) := by
      have h' : (t.kind != 3 || !(rightT t)) = true := by simpa using h
      rw [bearsE, if_pos (by rw [h', Bool.true_or])]
    (refine RetK.pure (by simp only [rs48, rsb, vcb, ↓evSo_some, ↓reduceIte, reduceCtorEq, seval]) (VLe.tups ?_); simp only [rs48, rsb, vcb, ↓evSo_some, ↓reduceIte, reduceCtorEq, seval])
    rw [e]; exact ⟨nilK, VLe.refl _, trivial⟩
  have hk : t.kind = 3 ∧ rightT t = true := by simpa using h
  clear h
  refine vcC.loop (X := Nat) (fun k => ⟨[(1, .d (slX l)), (2, .own 2 0), (29, .d (slX l)), (30, .d (.int .i64 l.length)), (31, .d (.int .i64 k))], [(2, .fix (cT t))], [2]⟩)
    (fun k => k ≤ l.length ∧ l.any (fun x => !(lossX x)) = (l.drop k).any (fun x => !(lossX x))) (fun k => l.length - k) 0 ⟨Nat.zero_le _, rfl⟩ (Wk.of _ hfn rfl (by simp only [slX, enb, vcb, ↓evSo_some, ↓reduceIte, reduceCtorEq, seval]) (by simp only [cT, enb, vcb, ↓evSo_some, ↓reduceIte, reduceCtorEq, seval])) ?_
  rintro k ⟨hkl, he⟩
  simp only [slX, cT, vcb, ↓evSo_some, ↓reduceIte, reduceCtorEq, seval]
  refine ⟨fun h1 => ?_, fun h1 => ?_⟩
  · have hlt : k < l.length := by have := of_decide_eq_true h1; omega
    obtain ⟨x, hd, hg, -, -⟩ := drop_at hlt
    have cl := s28 x
    simp only [vX, cX'] at cl
    rw [hd, List.any_cons] at he
    simp only [hg, vcb, ↓evSo_some, ↓reduceIte, reduceCtorEq, seval]
    repeat' first
        | (first
            | refine TR.p hP (by first | exact cl) (by repeat' first | exact trivial | (intro _; assumption) | apply And.intro) ?_
            | refine TR.gp hP rfl (fun _ => by first | exact cl) (fun _ => by repeat' first | exact trivial | (intro _; assumption) | apply And.intro) ?_
            | refine TR.pv hP rfl (by first | exact cl) trivial (by repeat' first | exact trivial | (intro _; assumption) | apply And.intro) ?_
           try simp only [hg, vcb, ↓evSo_some, ↓reduceIte, reduceCtorEq, seval])
        | refine And.intro (fun h => ?_) (fun h => ?_)
        | refine And.intro (by first | omega | (simp only [maxLen, decide_eq_true_eq, decide_eq_false_iff_not] at *; omega)) ?_
        | (refine TR.aslO rfl rfl rfl rfl trivial (Nat.le_of_ble_eq_true rfl) ?_
           try simp only [hg, vcb, ↓evSo_some, ↓reduceIte, reduceCtorEq, seval])
        | refine And.intro trivial ?_
        | refine And.intro rfl ?_
        | fail
    · have e : bearsE t l = ([], 1) := by
        rw [h, Bool.true_or] at he
        rw [bearsE, if_pos (by rw [he, Bool.or_true])]
      (refine RetK.pure (by simp only [rs48, rsb, vcb, ↓evSo_some, ↓reduceIte, reduceCtorEq, seval]) (VLe.tups ?_); simp only [rs48, rsb, vcb, ↓evSo_some, ↓reduceIte, reduceCtorEq, seval])
      rw [e]; exact ⟨nilK, VLe.refl _, trivial⟩
    · rw [h, Bool.false_or] at he
      exact lopK.on (k + 1) ⟨hlt, he⟩ (by omega) (Wk.of _ hfn rfl (by simp only [slX, enb, vcb, ↓evSo_some, ↓reduceIte, reduceCtorEq, seval]; exact wS (by omega)) (by simp only [cT, enb, vcb, ↓evSo_some, ↓reduceIte, reduceCtorEq, seval]))
  have hkk : k = l.length := by have := of_decide_eq_false h1; omega
  rw [hkk, List.drop_length, List.any_nil] at he
  have hX : ∀ x, x ∈ l → lossX x = true := fun x hx => by
    have := List.any_eq_false.1 he x hx
    simpa using this
  have e0 : bearsE t l = if 2000 < l.length then ([], 2) else (bearsF t l (roomT t) (eventsT t l) (List.replicate l.length 0), 0) := by
    rw [bearsE, if_neg (by rw [he, hk.1, hk.2]; simp)]
  clear he h1 hkk hkl
  repeat' first
      | (first
          | refine TR.p hP (by first | exact cm | exact ce) (by repeat' first | exact trivial | (intro _; assumption) | apply And.intro) ?_
          | refine TR.gp hP rfl (fun _ => by first | exact cm | exact ce) (fun _ => by repeat' first | exact trivial | (intro _; assumption) | apply And.intro) ?_
          | refine TR.pv hP rfl (by first | exact cm | exact ce) trivial (by repeat' first | exact trivial | (intro _; assumption) | apply And.intro) ?_
         try simp only [vcb, ↓evSo_some, ↓reduceIte, reduceCtorEq, seval])
      | refine And.intro (fun h => ?_) (fun h => ?_)
      | refine And.intro (by first | omega | (simp only [maxLen, decide_eq_true_eq, decide_eq_false_iff_not] at *; omega)) ?_
      | (refine TR.aslO rfl rfl rfl rfl trivial (Nat.le_of_ble_eq_true rfl) ?_
         try simp only [vcb, ↓evSo_some, ↓reduceIte, reduceCtorEq, seval])
      | refine And.intro trivial ?_
      | refine And.intro rfl ?_
      | fail
  · have h2 : 2000 < l.length := by have := of_decide_eq_true h; omega
    rw [if_pos h2] at e0
    (refine RetK.pure (by simp only [rs48, rsb, vcb, ↓evSo_some, ↓reduceIte, reduceCtorEq, seval]) (VLe.tups ?_); simp only [rs48, rsb, vcb, ↓evSo_some, ↓reduceIte, reduceCtorEq, seval])
    rw [e0]; exact ⟨nilK, VLe.refl _, trivial⟩
  have h2 : ¬ 2000 < l.length := by have := of_decide_eq_false h; omega
  rw [if_neg h2] at e0
  clear h
  have hev := events_ok t l
  have hroom := (roomT_eq t).2
  generalize hG : eventsT t l = G at *
  have hbs := fun g (hg : g ∈ G) => amts_bounds hX (hev.2.2 g hg)
  refine vcC.loop (X := Nat × Int × List Int) (fun x => ⟨[(1, .d (slX l)), (2, .own 2 0), (8, .osl 44), (9, .d (.int .i64 x.2.1)), (49, gD G), (50, .d (.int .i64 G.length)), (51, .d (.int .i64 x.1))],
      [(2, .fix (cT t)), (44, .row 3 1 x.2.2.length (fun i => [.int .i64 (x.2.2.getD i 0)]))], [2, 44]⟩)
    (fun x => x.1 ≤ G.length ∧ x.2.2.length = l.length ∧ 0 ≤ x.2.1 ∧ x.2.1 ≤ roomT t ∧ bearsF t l (roomT t) G (List.replicate l.length 0) = bearsF t l x.2.1 (G.drop x.1) x.2.2) (fun x => G.length - x.1) (0, roomT t, List.replicate l.length 0) ⟨Nat.zero_le _, by simp, hroom.1, Int.le_refl _, rfl⟩
    (Wk.of _ hfn rfl (by simp only [slX, gD, enb, vcb, ↓evSo_some, ↓reduceIte, reduceCtorEq, seval]) (by simp only [cT, enb, vcb, ↓evSo_some, ↓reduceIte, reduceCtorEq, seval]; exact OLe.row (by simp) fun i hi => by simp [List.getD_eq_getElem?_getD, List.getElem?_replicate, hi])) ?_
  rintro ⟨j, left, out⟩ ⟨hj, hout, hl0, hl1, he⟩
  simp only at hj hout hl0 hl1 he
  simp only [slX, cT, gD, vcb, ↓evSo_some, ↓reduceIte, reduceCtorEq, seval]
  refine ⟨fun h1 => ?_, fun h1 => ?_⟩
  · have hlt : j < G.length := by have := of_decide_eq_true h1; omega
    obtain ⟨g, hd, hgd, hgm, -⟩ := drop_at hlt
    have hgb := hbs g hgm
    have hge := hev.2.1 g hgm
    have hgi := hev.2.2 g hgm
    rw [hd, bearsF] at he
    simp only [nestD, cI, hgd, vcb, ↓evSo_some, ↓reduceIte, reduceCtorEq, seval]
    repeat' first
        | refine And.intro (fun h => ?_) (fun h => ?_)
        | refine And.intro (by first | omega | (simp only [maxLen, decide_eq_true_eq, decide_eq_false_iff_not] at *; omega)) ?_
        | (refine TR.aslO rfl rfl rfl rfl trivial (Nat.le_of_ble_eq_true rfl) ?_
           try simp only [nestD, cI, hgd, vcb, ↓evSo_some, ↓reduceIte, reduceCtorEq, seval])
        | refine And.intro trivial ?_
        | refine And.intro rfl ?_
        | fail
    refine vcC.loop (X := Nat) (fun i => ⟨[(1, .d (slX l)), (2, .own 2 0), (8, .osl 44), (9, .d (.int .i64 left)), (49, gD G), (50, .d (.int .i64 G.length)), (51, .d (.int .i64 j)), (11, .d (slK .i64 g)), (55, .d (slK .i64 g)), (56, .d (.int .i64 g.length)), (57, .d (.int .i64 i)), (12, .osl 1000), (13, .d (.int .i64 (amtsT l (g.take i)).sum))],
        [(2, .fix (cT t)), (44, .row 3 1 out.length (fun i => [.int .i64 (out.getD i 0)])), (1000, .row 3 1 (amtsT l (g.take i)).length (fun q => [.int .i64 ((amtsT l (g.take i)).getD q 0)]))], [2, 44, 1000]⟩)
      (fun i => i ≤ g.length) (fun i => g.length - i) 0 (Nat.zero_le _)
      ((Wk.row0 (s := 12) (k := 1000) (e := 3) (sz := 1) (f' := fun _ => []) rfl rfl (by simp)).trans (Wk.of _ hfn rfl (by simp only [slX, gD, nestD, cI, amtsT, List.take_zero, List.map_nil, List.sum_nil, enb, vcb, ↓evSo_some, ↓reduceIte, reduceCtorEq, seval]) (by simp only [cT, amtsT, List.take_zero, List.map_nil, enb, vcb, ↓evSo_some, ↓reduceIte, reduceCtorEq, seval]; exact OLe.row rfl (fun i hi => absurd hi (Nat.not_lt_zero i))))) ?_
    rintro i hi
    simp only [slX, cT, gD, vcb, ↓evSo_some, ↓reduceIte, reduceCtorEq, seval]
    refine ⟨fun h2 => ?_, fun h2 => ?_⟩
    · have hli : i < g.length := by have := of_decide_eq_true h2; omega
      obtain ⟨x, hd2, hgx, hxm, hat⟩ := drop_at hli
      have hb := hgi x hxm
      have htk : g.take (i + 1) = g.take i ++ [x] := by rw [List.take_add_one, hat]; rfl
      have hal : (amtsT l (g.take i)).length = i := by rw [amtsT, List.length_map, List.length_take]; omega
      have hs1 := amts_bounds hX (g := g.take i) (fun q hq => hgi q (List.mem_of_mem_take hq))
      have hs2 := amts_bounds hX (g := g.take (i + 1)) (fun q hq => hgi q (List.mem_of_mem_take hq))
      have hl1 : (g.take (i + 1)).length ≤ 2000 := by rw [List.length_take]; omega
      have hs3 : (amtsT l (g.take (i + 1))).sum = (amtsT l (g.take i)).sum + (l.getD x.toNat default).amt := by rw [htk, amts_snoc, List.sum_append]; simp
      have ew : IntKind.i64.wrap ((amtsT l (g.take i)).sum + (l.getD x.toNat default).amt) = (amtsT l (g.take (i + 1))).sum := by rw [← hs3]; exact wI (by omega)
      have hbytes : ((amtsT l (g.take i)).length + 1) * 8 ≤ 140737488355328 := by omega
      have hmx : (amtsT l (g.take i)).length + 1 ≤ maxLen := by simp only [maxLen]; omega
      simp only [hgx, ew, vcb, ↓evSo_some, ↓reduceIte, reduceCtorEq, seval]
      repeat' first
          | refine And.intro (fun h => ?_) (fun h => ?_)
          | refine And.intro (by first | omega | (simp only [maxLen, decide_eq_true_eq, decide_eq_false_iff_not] at *; omega)) ?_
          | (refine TR.aslO rfl rfl rfl rfl trivial (Nat.le_of_ble_eq_true rfl) ?_
             try simp only [hgx, ew, vcb, ↓evSo_some, ↓reduceIte, reduceCtorEq, seval])
          | refine And.intro trivial ?_
          | refine And.intro rfl ?_
          | fail
      exact lopK.on (i + 1) hli (by omega) ((Wk.sw 68 1000 _ hfn (by simp) (by simp)).trans (Wk.of _ hfn rfl (by simp only [slX, gD, enb, vcb, ↓evSo_some, ↓reduceIte, reduceCtorEq, seval]; exact wS (by omega)) (by simp only [cT, htk, amts_snoc, enb, vcb, ↓evSo_some, ↓reduceIte, reduceCtorEq, seval]; exact OLe.app1 (fun n : Int => [.int .i64 n]) (fun i hi => by simp [hi]) (by simp [litRow]))))
    have hig : i = g.length := by have := of_decide_eq_false h2; omega
    subst hig
    simp only [List.take_length]
    clear h2 hi
    have hsum : (amtsT l g).sum ≤ 2000000000000000000 := by have := hgb.2.2; omega
    have cp := s18 t (amtsT l g).sum
    simp only [vT, cT] at cp
    repeat' first
        | (first
            | refine TR.p hP (by first | exact cp) (by repeat' first | exact trivial | (intro _; assumption) | apply And.intro) ?_
            | refine TR.gp hP rfl (fun _ => by first | exact cp) (fun _ => by repeat' first | exact trivial | (intro _; assumption) | apply And.intro) ?_
            | refine TR.pv hP rfl (by first | exact cp) trivial (by repeat' first | exact trivial | (intro _; assumption) | apply And.intro) ?_
           try simp only [vcb, ↓evSo_some, ↓reduceIte, reduceCtorEq, seval])
        | refine And.intro (fun h => ?_) (fun h => ?_)
        | refine And.intro (by first | omega | (simp only [maxLen, decide_eq_true_eq, decide_eq_false_iff_not] at *; omega)) ?_
        | (refine TR.aslO rfl rfl rfl rfl trivial (Nat.le_of_ble_eq_true rfl) ?_
           try simp only [vcb, ↓evSo_some, ↓reduceIte, reduceCtorEq, seval])
        | refine And.intro trivial ?_
        | refine And.intro rfl ?_
        | fail
    have hpn := part_nn t (amt := (amtsT l g).sum) hgb.2.1 (by omega)
    generalize hb : min left (partT t (amtsT l g).sum) = b at *
    have hb0 : 0 ≤ b ∧ b ≤ left := by omega
    have ewl : IntKind.i64.wrap (left - b) = left - b := wI (by omega)
    have csp := sSplit b (amtsT l g) (by omega) (by rw [amtsT, List.length_map]; omega) (fun x hx => by have := (hgb.1 x hx).2; omega)
    have hsl := split_len b (amtsT l g)
    simp only [slK] at csp
    simp only [ewl]
    refine TR.pub hP 1000 rfl csp (by repeat' first | exact trivial | (intro _; assumption) | apply And.intro) ?_
    simp only [vcb, ↓evSo_some, ↓reduceIte, reduceCtorEq, seval]
    repeat' first
        | refine And.intro (fun h => ?_) (fun h => ?_)
        | refine And.intro (by first | omega | (simp only [maxLen, decide_eq_true_eq, decide_eq_false_iff_not] at *; omega)) ?_
        | (refine TR.aslO rfl rfl rfl rfl trivial (Nat.le_of_ble_eq_true rfl) ?_
           try simp only [vcb, ↓evSo_some, ↓reduceIte, reduceCtorEq, seval])
        | refine And.intro trivial ?_
        | refine And.intro rfl ?_
        | fail
    have hsn : (amtsT l g).length = g.length := by rw [amtsT, List.length_map]
    generalize hds : (splitR b (amtsT l g)).1 = ds at *
    refine vcC.loop (X := Nat × List Int) (fun x => ⟨[(1, .d (slX l)), (2, .own 2 0), (8, .osl 44), (9, .d (.int .i64 (left - b))), (49, gD G), (50, .d (.int .i64 G.length)), (51, .d (.int .i64 j)), (11, .d (slK .i64 g)), (91, .d (slK .i64 ds)), (92, .d (.int .i64 ds.length)), (93, .d (.int .i64 x.1))],
        [(2, .fix (cT t)), (44, .row 3 1 x.2.length (fun i => [.int .i64 (x.2.getD i 0)]))], [2, 44]⟩)
      (fun x => x.1 ≤ ds.length ∧ x.2.length = l.length ∧ putAll out g ds = putAll x.2 (g.drop x.1) (ds.drop x.1)) (fun x => ds.length - x.1) (0, out) ⟨Nat.zero_le _, hout, rfl⟩
      (Wk.of _ hfn rfl (by simp only [slX, gD, nestD, cI, enb, vcb, ↓evSo_some, ↓reduceIte, reduceCtorEq, seval]) (by simp only [cT, enb, vcb, ↓evSo_some, ↓reduceIte, reduceCtorEq, seval])) ?_
    rintro ⟨q, cur⟩ ⟨hq, hcur, hpa⟩
    simp only at hq hcur hpa
    simp only [slX, cT, gD, vcb, ↓evSo_some, ↓reduceIte, reduceCtorEq, seval]
    refine ⟨fun h3 => ?_, fun h3 => ?_⟩
    · have hlq : q < ds.length := by have := of_decide_eq_true h3; omega
      obtain ⟨m, hd3, hgm3, -, -⟩ := drop_at hlq
      obtain ⟨x, hd4, hgx, hxm, -⟩ := drop_at (l := g) (k := q) (by omega)
      have hb4 := hgi x hxm
      have hb5 : (0 : Int) ≤ x ∧ x < (cur.length : Int) := by rw [hcur]; exact hb4
      rw [hd3, hd4, putAll] at hpa
      simp only [hgm3, hgx, vcb, ↓evSo_some, ↓reduceIte, reduceCtorEq, seval]
      repeat' first
          | refine And.intro (fun h => ?_) (fun h => ?_)
          | refine And.intro (by first | omega | (simp only [maxLen, decide_eq_true_eq, decide_eq_false_iff_not] at *; omega)) ?_
          | (refine TR.aslO rfl rfl rfl rfl trivial (Nat.le_of_ble_eq_true rfl) ?_
             try simp only [hgm3, hgx, vcb, ↓evSo_some, ↓reduceIte, reduceCtorEq, seval])
          | refine And.intro trivial ?_
          | refine And.intro rfl ?_
          | fail
      refine lopK.on (q + 1, cur.set x.toNat m) ⟨hlq, by simp [hcur], hpa⟩ (by simp only; omega) (Wk.of _ hfn rfl (by simp only [slX, gD, enb, vcb, ↓evSo_some, ↓reduceIte, reduceCtorEq, seval]; exact wS (by omega)) (by simp only [cT, enb, vcb, ↓evSo_some, ↓reduceIte, reduceCtorEq, seval]; exact OLe.row (by simp) fun i hi => putI hi))
    · have hqd : q = ds.length := by have := of_decide_eq_false h3; omega
      have hfin : putAll cur (g.drop q) (ds.drop q) = cur := by
        rw [hqd, List.drop_length]
        cases g.drop ds.length <;> simp [putAll]
      rw [hfin] at hpa
      rw [hpa] at he
      try simp only [vcb, ↓evSo_some, ↓reduceIte, reduceCtorEq, seval]
      exact lopK.on (j + 1, left - b, cur) ⟨hlt, hcur, by simp only; omega, by simp only; omega, he⟩ (by simp only; omega) (Wk.of _ hfn rfl (by simp only [slX, gD, enb, vcb, ↓evSo_some, ↓reduceIte, reduceCtorEq, seval]; exact wS (by omega)) (by simp only [cT, enb, vcb, ↓evSo_some, ↓reduceIte, reduceCtorEq, seval]))
  · have hjn : j = G.length := by have := of_decide_eq_false h1; omega
    rw [hjn, List.drop_length, bearsF] at he
    repeat' first
        | refine And.intro (fun h => ?_) (fun h => ?_)
        | refine And.intro (by first | omega | (simp only [maxLen, decide_eq_true_eq, decide_eq_false_iff_not] at *; omega)) ?_
        | (refine TR.aslO rfl rfl rfl rfl trivial (Nat.le_of_ble_eq_true rfl) ?_
           try simp only [vcb, ↓evSo_some, ↓reduceIte, reduceCtorEq, seval])
        | refine And.intro trivial ?_
        | refine And.intro rfl ?_
        | fail
    refine RetK.mk _ ((Wk.of (b := ⟨[(4, .osl 44), (5, .d (.int .i64 0))], [(44, .row 3 1 out.length (fun i => [.int .i64 (out.getD i 0)]))], [44]⟩) _ hfn rfl (by simp only [enb, vcb, ↓evSo_some, ↓reduceIte, reduceCtorEq, seval]) (by simp only [enb, vcb, ↓evSo_some, ↓reduceIte, reduceCtorEq, seval])).trans (Wk.pub 44 rfl)) (by simp only [rs48, rsb, vcb, ↓evSo_some, ↓reduceIte, reduceCtorEq, seval]) ?_ trivial
    simp only [rs48, rsb, vcb, ↓evSo_some, ↓reduceIte, reduceCtorEq, seval]
    rw [e0, he]; exact VLe.tups ⟨VLe.refl _, VLe.refl _, trivial⟩
end Go.Proofs.Ytgpckelpmincmaa
end
section
set_option linter.unusedSimpArgs false
set_option linter.unusedVariables false
namespace Go.Proofs.Ytgpckelpmincmaa
set_option linter.unusedSimpArgs false
set_option linter.unusedVariables false
open Go.Bx
def heN (x b : Nat) : Nat := x * b / 10000 + (if upE (x * b / 10000) (x * b % 10000) 10000 = true then 1 else 0)
theorem he_spec (x b : Nat) : 10000 * heN x b ≤ x * b + 5000 ∧ x * b ≤ 10000 * heN x b + 5000 ∧ ((10000 * heN x b = x * b + 5000 ∨ x * b = 10000 * heN x b + 5000) → heN x b % 2 = 0) := by
  unfold heN upE
  generalize x * b = y
  split
  · rename_i h
    simp only [Bool.or_eq_true, Bool.and_eq_true, decide_eq_true_eq] at h
    omega
  · rename_i h
    simp only [Bool.or_eq_true, Bool.and_eq_true, decide_eq_true_eq, not_or, not_and] at h
    omega
theorem he_lip {x m b : Nat} (hb : b ≤ 10000) : heN (x + m) b ≤ heN x b + m := by
  have h1 := he_spec x b
  have h2 := he_spec (x + m) b
  have h3 : m * b ≤ m * 10000 := Nat.mul_le_mul_left _ hb
  rw [Nat.add_mul] at h2
  by_cases hm : m = 0
  · subst hm; simp
  by_cases h4 : b = 10000
  · subst h4; omega
  · have h5 : m * b ≤ m * 9999 := Nat.mul_le_mul_left _ (by omega)
    generalize x * b = a at *
    generalize m * b = c at *
    omega
theorem he_le {x b : Nat} (hb : b ≤ 10000) : heN x b ≤ x := by
  have h := he_lip (x := 0) (m := x) hb
  have h0 : heN 0 b = 0 := by have := he_spec 0 b; omega
  rw [Nat.zero_add, h0, Nat.zero_add] at h
  exact h
theorem bp_he {x b : Nat} (hx : x ≤ 1000000000000000) (hb : b ≤ 10000) : bpR (x : Int) (b : Int) = (((heN x b : Nat) : Int), 0) := by
  have h1 : x * b ≤ 1000000000000000 * 10000 := Nat.mul_le_mul hx hb
  have h2 := he_le (x := x) hb
  have e : ((10000 : Int)).toNat = 10000 := rfl
  unfold bpR ofR
  rw [if_neg (by omega), if_neg (by omega), e]
  simp only [Int.toNat_natCast]
  rw [if_neg (by omega), if_neg]
  · rfl
  · have := h2; unfold heN at this; omega
end Go.Proofs.Ytgpckelpmincmaa
end
section
set_option linter.unusedSimpArgs false
set_option linter.unusedVariables false
namespace Go.Proofs.Ytgpckelpmincmaa
set_option linter.unusedSimpArgs false
set_option linter.unusedVariables false
open Go.Bx
set_option maxRecDepth 10000
def bearsQ (t : Tr) (x : Ls) : Int × Bool := if t.kind = 1 ∧ takesT t x = true then ((bpR x.amt t.bp).1, true) else (0, false)
theorem right_bp {t : Tr} (h : rightT t = true) (hk : t.kind = 1) : 1 ≤ t.bp ∧ t.bp ≤ 10000 := by
  unfold rightT at h
  simp only [hk, if_true, Bool.and_eq_true, inB_iff] at h
  exact h.2.1
theorem q31 (t : Tr) (x : Ls) : Ctr Try.prog 20 [vT t, vX x] [] (.tup [.d (.int .i64 (bearsQ t x).1), .d (.bool (bearsQ t x).2)]) [] [] := by
  refine ctr_pure Try.func20 ok20 rfl cc20 cr20 Try.ntmps20 (by simp) rfl rfl ?_; intro c hP hfn; simp only [kc20, vT, vX, cT, cX', vcb, ↓evSo_some, ↓reduceIte, reduceCtorEq, seval]
  repeat' first
      | (first
          | refine TR.p hP (by first | exact s23 t x) (by repeat' first | exact trivial | (intro _; assumption) | apply And.intro) ?_
          | refine TR.gp hP rfl (fun _ => by first | exact s23 t x) (fun _ => by repeat' first | exact trivial | (intro _; assumption) | apply And.intro) ?_
          | refine TR.pv hP rfl (by first | exact s23 t x) trivial (by repeat' first | exact trivial | (intro _; assumption) | apply And.intro) ?_
         try simp only [vT, vX, cT, cX', vcb, ↓evSo_some, ↓reduceIte, reduceCtorEq, seval])
      | refine And.intro (fun h => ?_) (fun h => ?_)
      | refine And.intro (by first | omega | (simp only [maxLen, decide_eq_true_eq, decide_eq_false_iff_not] at *; omega)) ?_
      | (refine TR.aslO rfl rfl rfl rfl trivial (Nat.le_of_ble_eq_true rfl) ?_
         try simp only [vT, vX, cT, cX', vcb, ↓evSo_some, ↓reduceIte, reduceCtorEq, seval])
      | refine And.intro trivial ?_
      | refine And.intro rfl ?_
      | fail
  · have e : bearsQ t x = (0, false) := by
      rw [bearsQ, if_neg]; rintro ⟨h1, h2⟩; simp [h1, h2] at h
    (refine RetK.pure (by simp only [rs20, rsb, vcb, ↓evSo_some, ↓reduceIte, reduceCtorEq, seval]) (VLe.tups ?_); simp only [rs20, rsb, vcb, ↓evSo_some, ↓reduceIte, reduceCtorEq, seval])
    rw [e]; exact ⟨VLe.refl _, VLe.refl _, trivial⟩
  have h1 : t.kind = 1 ∧ takesT t x = true := by simpa using h
  have hr := takes_right h1.2
  have hb := right_bp hr.1 h1.1
  have ha := (lossX_iff.1 hr.2).2.2.2.2
  have e : bearsQ t x = ((bpR x.amt t.bp).1, true) := by rw [bearsQ, if_pos h1]
  repeat' first
      | (first
          | refine TR.p hP (by first | exact sBp x.amt t.bp (by omega) (by omega)) (by repeat' first | exact trivial | (intro _; assumption) | apply And.intro) ?_
          | refine TR.gp hP rfl (fun _ => by first | exact sBp x.amt t.bp (by omega) (by omega)) (fun _ => by repeat' first | exact trivial | (intro _; assumption) | apply And.intro) ?_
          | refine TR.pv hP rfl (by first | exact sBp x.amt t.bp (by omega) (by omega)) trivial (by repeat' first | exact trivial | (intro _; assumption) | apply And.intro) ?_
         try simp only [vcb, ↓evSo_some, ↓reduceIte, reduceCtorEq, seval])
      | refine And.intro (fun h => ?_) (fun h => ?_)
      | refine And.intro (by first | omega | (simp only [maxLen, decide_eq_true_eq, decide_eq_false_iff_not] at *; omega)) ?_
      | (refine TR.aslO rfl rfl rfl rfl trivial (Nat.le_of_ble_eq_true rfl) ?_
         try simp only [vcb, ↓evSo_some, ↓reduceIte, reduceCtorEq, seval])
      | refine And.intro trivial ?_
      | refine And.intro rfl ?_
      | fail
  (refine RetK.pure (by simp only [rs20, rsb, vcb, ↓evSo_some, ↓reduceIte, reduceCtorEq, seval]) (VLe.tups ?_); simp only [rs20, rsb, vcb, ↓evSo_some, ↓reduceIte, reduceCtorEq, seval])
  rw [e]; exact ⟨VLe.refl _, VLe.refl _, trivial⟩
theorem q32 (t : Tr) (x : Ls) (hp : x.per ≤ 9223372036854775807) : Ctr Try.prog 54 [vT t, vX x] [] (.tup [.d (.int .i64 (bearsQ t x).1), .d (.bool (bearsQ t x).2)]) [] [] := by
  refine ctr_pure Try.func54 ok54 rfl cc54 cr54 Try.ntmps54 (by simp) rfl rfl ?_; intro c hP hfn; simp only [kc54, vT, vX, cT, cX', vcb, ↓evSo_some, ↓reduceIte, reduceCtorEq, seval]
  repeat' first
      | (first
          | refine TR.p hP (by first | exact s30 t x hp) (by repeat' first | exact trivial | (intro _; assumption) | apply And.intro) ?_
          | refine TR.gp hP rfl (fun _ => by first | exact s30 t x hp) (fun _ => by repeat' first | exact trivial | (intro _; assumption) | apply And.intro) ?_
          | refine TR.pv hP rfl (by first | exact s30 t x hp) trivial (by repeat' first | exact trivial | (intro _; assumption) | apply And.intro) ?_
         try simp only [vT, vX, cT, cX', vcb, ↓evSo_some, ↓reduceIte, reduceCtorEq, seval])
      | refine And.intro (fun h => ?_) (fun h => ?_)
      | refine And.intro (by first | omega | (simp only [maxLen, decide_eq_true_eq, decide_eq_false_iff_not] at *; omega)) ?_
      | (refine TR.aslO rfl rfl rfl rfl trivial (Nat.le_of_ble_eq_true rfl) ?_
         try simp only [vT, vX, cT, cX', vcb, ↓evSo_some, ↓reduceIte, reduceCtorEq, seval])
      | refine And.intro trivial ?_
      | refine And.intro rfl ?_
      | fail
  · have e : bearsQ t x = (0, false) := by
      rw [bearsQ, if_neg]; rintro ⟨h1, h2⟩; simp [h1, h2] at h
    (refine RetK.pure (by simp only [rs54, rsb, vcb, ↓evSo_some, ↓reduceIte, reduceCtorEq, seval]) (VLe.tups ?_); simp only [rs54, rsb, vcb, ↓evSo_some, ↓reduceIte, reduceCtorEq, seval])
    rw [e]; exact ⟨VLe.refl _, VLe.refl _, trivial⟩
  have h1 : t.kind = 1 ∧ takesT t x = true := by simpa using h
  have hr := takes_right h1.2
  have hb := right_bp hr.1 h1.1
  have ha := (lossX_iff.1 hr.2).2.2.2.2
  have e : bearsQ t x = ((bpR x.amt t.bp).1, true) := by rw [bearsQ, if_pos h1]
  repeat' first
      | (first
          | refine TR.p hP (by first | exact rBp x.amt t.bp (by omega) (by omega)) (by repeat' first | exact trivial | (intro _; assumption) | apply And.intro) ?_
          | refine TR.gp hP rfl (fun _ => by first | exact rBp x.amt t.bp (by omega) (by omega)) (fun _ => by repeat' first | exact trivial | (intro _; assumption) | apply And.intro) ?_
          | refine TR.pv hP rfl (by first | exact rBp x.amt t.bp (by omega) (by omega)) trivial (by repeat' first | exact trivial | (intro _; assumption) | apply And.intro) ?_
         try simp only [vcb, ↓evSo_some, ↓reduceIte, reduceCtorEq, seval])
      | refine And.intro (fun h => ?_) (fun h => ?_)
      | refine And.intro (by first | omega | (simp only [maxLen, decide_eq_true_eq, decide_eq_false_iff_not] at *; omega)) ?_
      | (refine TR.aslO rfl rfl rfl rfl trivial (Nat.le_of_ble_eq_true rfl) ?_
         try simp only [vcb, ↓evSo_some, ↓reduceIte, reduceCtorEq, seval])
      | refine And.intro trivial ?_
      | refine And.intro rfl ?_
      | fail
  (refine RetK.pure (by simp only [rs54, rsb, vcb, ↓evSo_some, ↓reduceIte, reduceCtorEq, seval]) (VLe.tups ?_); simp only [rs54, rsb, vcb, ↓evSo_some, ↓reduceIte, reduceCtorEq, seval])
  rw [e]; exact ⟨VLe.refl _, VLe.refl _, trivial⟩
def mQ (t : Tr) (x : Ls) : Int := (heN x.amt.toNat t.bp.toNat : Nat)
theorem bears_m {t : Tr} {x : Ls} (h1 : t.kind = 1) (h2 : takesT t x = true) : (bpR x.amt t.bp).1 = mQ t x ∧ 0 ≤ mQ t x ∧ mQ t x ≤ x.amt ∧ x.amt ≤ 1000000000000000 ∧ 1 ≤ t.bp ∧ t.bp ≤ 10000 := by
  have hr := takes_right h2
  have hb := right_bp hr.1 h1
  have ha := (lossX_iff.1 hr.2).2.2.2.2
  have e1 : x.amt = (x.amt.toNat : Int) := by omega
  have e2 : t.bp = (t.bp.toNat : Int) := by omega
  have h3 := bp_he (x := x.amt.toNat) (b := t.bp.toNat) (by omega) (by omega)
  have h4 := he_le (x := x.amt.toNat) (b := t.bp.toNat) (by omega)
  rw [← e1, ← e2] at h3
  rw [h3]
  refine ⟨rfl, ?_, ?_, by omega, hb⟩ <;> unfold mQ <;> omega
theorem bearsQ_eq (t : Tr) (x : Ls) : bearsQ t x = if t.kind = 1 ∧ takesT t x = true then (mQ t x, true) else (0, false) := by
  unfold bearsQ
  split
  · rename_i h; rw [(bears_m h.1 h.2).1]
  · rfl
end Go.Proofs.Ytgpckelpmincmaa
end
section
set_option linter.unusedSimpArgs false
set_option linter.unusedVariables false
namespace Go.Proofs.Ytgpckelpmincmaa
set_option linter.unusedSimpArgs false
set_option linter.unusedVariables false
open Go.Bx
set_option maxRecDepth 10000
def bearsA (t : Tr) (l : List Ls) : List Int := if t.kind = 2 then (bearsT t l).1 else if t.kind = 3 then (bearsE t l).1 else l.map fun x => (bearsQ t x).1
set_option maxHeartbeats 2000000 in
theorem sTBears (t : Tr) (l : List Ls) (hl : l.length ≤ 1000000) : Ctr Try.prog 25 [vT t, .d (slX l)] [] (.d (slK .i64 (bearsA t l))) [] [] := by
  have c1 := s15 t l (by omega)
  have c2 := sBears t l hl
  simp only [vT, cT, slX, slK] at c1 c2
  refine ctr_pure Try.func25 ok25 rfl cc25 cr25 Try.ntmps25 (by simp) rfl rfl ?_; intro c hP hfn; simp only [kc25, vT, cT, slX, vcb, ↓evSo_some, ↓reduceIte, reduceCtorEq, seval]
  repeat' first
      | (first
          | refine TR.p hP (by first | exact c1 | exact c2) (by repeat' first | exact trivial | (intro _; assumption) | apply And.intro) ?_
          | refine TR.gp hP rfl (fun _ => by first | exact c1 | exact c2) (fun _ => by repeat' first | exact trivial | (intro _; assumption) | apply And.intro) ?_
          | refine TR.pv hP rfl (by first | exact c1 | exact c2) trivial (by repeat' first | exact trivial | (intro _; assumption) | apply And.intro) ?_
         try simp only [vcb, ↓evSo_some, ↓reduceIte, reduceCtorEq, seval])
      | refine And.intro (fun h => ?_) (fun h => ?_)
      | refine And.intro (by first | omega | (simp only [maxLen, decide_eq_true_eq, decide_eq_false_iff_not] at *; omega)) ?_
      | (refine TR.aslO rfl rfl rfl rfl trivial (Nat.le_of_ble_eq_true rfl) ?_
         try simp only [vcb, ↓evSo_some, ↓reduceIte, reduceCtorEq, seval])
      | refine And.intro trivial ?_
      | refine And.intro rfl ?_
      | fail
  · have h2 : t.kind = 2 := by simpa using h
    refine RetK.mk _ (Wk.refl _ _) (by simp only [rs25, rsb, vcb, ↓evSo_some, ↓reduceIte, reduceCtorEq, seval]) ?_ trivial
    simp only [rs25, rsb, vcb, ↓evSo_some, ↓reduceIte, reduceCtorEq, seval]
    rw [bearsA, if_pos h2]; exact VLe.refl _
  · rename_i h8
    have h2 : ¬ t.kind = 2 := by simpa using h8
    have h3 : t.kind = 3 := by simpa using h
    refine RetK.mk _ (Wk.refl _ _) (by simp only [rs25, rsb, vcb, ↓evSo_some, ↓reduceIte, reduceCtorEq, seval]) ?_ trivial
    simp only [rs25, rsb, vcb, ↓evSo_some, ↓reduceIte, reduceCtorEq, seval]
    rw [bearsA, if_neg h2, if_pos h3]; exact VLe.refl _
  · rename_i h8
    have h2 : ¬ t.kind = 2 := by simpa using h8
    have h3 : ¬ t.kind = 3 := by simpa using h
    have e0 : bearsA t l = l.map fun x => (bearsQ t x).1 := by rw [bearsA, if_neg h2, if_neg h3]
    clear c1 c2
    refine vcC.loop (X := List Int) (fun x => ⟨[(2, .own 2 0), (5, .osl 10), (13, .d (slX l)), (14, .d (.int .i64 l.length)), (15, .d (.int .i64 x.length))], [(2, .fix (cT t)), (10, .row 3 1 l.length (fun i => [.int .i64 (x.getD i 0)]))], [2, 10]⟩)
      (fun x => x.length ≤ l.length ∧ (l.map fun x => (bearsQ t x).1) = x ++ (l.drop x.length).map fun x => (bearsQ t x).1) (fun x => l.length - x.length) [] ⟨Nat.zero_le _, by simp⟩ (Wk.of _ hfn rfl (by simp only [slX, enb, vcb, ↓evSo_some, ↓reduceIte, reduceCtorEq, seval]) (by simp only [cT, enb, vcb, ↓evSo_some, ↓reduceIte, reduceCtorEq, seval]; exact OLe.row rfl fun i _ => by simp)) ?_
    rintro dn ⟨hk, he⟩
    simp only [slX, cT, vcb, ↓evSo_some, ↓reduceIte, reduceCtorEq, seval]
    refine ⟨fun h1 => ?_, fun h1 => ?_⟩
    · have hlt : dn.length < l.length := by have := of_decide_eq_true h1; omega
      obtain ⟨x, hd, hg, -, -⟩ := drop_at hlt
      have cq := q31 t x
      simp only [vT, cT, vX, cX'] at cq
      rw [hd, List.map_cons] at he
      simp only [hg, vcb, ↓evSo_some, ↓reduceIte, reduceCtorEq, seval]
      repeat' first
          | (first
              | refine TR.p hP (by first | exact cq) (by repeat' first | exact trivial | (intro _; assumption) | apply And.intro) ?_
              | refine TR.gp hP rfl (fun _ => by first | exact cq) (fun _ => by repeat' first | exact trivial | (intro _; assumption) | apply And.intro) ?_
              | refine TR.pv hP rfl (by first | exact cq) trivial (by repeat' first | exact trivial | (intro _; assumption) | apply And.intro) ?_
             try simp only [hg, vcb, ↓evSo_some, ↓reduceIte, reduceCtorEq, seval])
          | refine And.intro (fun h => ?_) (fun h => ?_)
          | refine And.intro (by first | omega | (simp only [maxLen, decide_eq_true_eq, decide_eq_false_iff_not] at *; omega)) ?_
          | (refine TR.aslO rfl rfl rfl rfl trivial (Nat.le_of_ble_eq_true rfl) ?_
             try simp only [hg, vcb, ↓evSo_some, ↓reduceIte, reduceCtorEq, seval])
          | refine And.intro trivial ?_
          | refine And.intro rfl ?_
          | fail
      exact lopK.on (dn ++ [(bearsQ t x).1]) ⟨by simp; omega, by rw [he]; simp⟩ (by simp; omega) (Wk.of _ hfn rfl (by simp only [slX, enb, vcb, ↓evSo_some, ↓reduceIte, reduceCtorEq, seval]; rw [List.length_append]; exact wS (by omega)) (by simp only [cT, enb, vcb, ↓evSo_some, ↓reduceIte, reduceCtorEq, seval]; exact OLe.snoc))
    · have hkl : dn.length = l.length := by have := of_decide_eq_false h1; omega
      rw [hkl, List.drop_length, List.map_nil, List.append_nil] at he
      repeat' first
          | refine And.intro (fun h => ?_) (fun h => ?_)
          | refine And.intro (by first | omega | (simp only [maxLen, decide_eq_true_eq, decide_eq_false_iff_not] at *; omega)) ?_
          | (refine TR.aslO rfl rfl rfl rfl trivial (Nat.le_of_ble_eq_true rfl) ?_
             try simp only [vcb, ↓evSo_some, ↓reduceIte, reduceCtorEq, seval])
          | refine And.intro trivial ?_
          | refine And.intro rfl ?_
          | fail
      refine RetK.mk _ (Wk.pub 10 rfl) (by simp only [rs25, rsb, vcb, ↓evSo_some, ↓reduceIte, reduceCtorEq, seval]) ?_ trivial
      simp only [rs25, rsb, vcb, ↓evSo_some, ↓reduceIte, reduceCtorEq, seval]
      rw [e0, he]
      exact VLe.sl hkl.symm (fun _ => rfl) id fun i hi => rfl
end Go.Proofs.Ytgpckelpmincmaa
end
section
set_option linter.unusedSimpArgs false
set_option linter.unusedVariables false
namespace Go.Proofs.Ytgpckelpmincmaa
set_option linter.unusedSimpArgs false
set_option linter.unusedVariables false
open Go.Bx
set_option maxRecDepth 10000
set_option maxHeartbeats 4000000 in
theorem rBears (t : Tr) (l : List Ls) (hl : l.length ≤ 1000000) (hp : ∀ x, x ∈ l → x.per ≤ 9223372036854775807) : Ctr Try.prog 53 [vT t, .d (slX l)] [] (.tup [.d (slK .i64 (bearsE t l).1), .d (.int .i64 (bearsE t l).2)]) [] [] := by
  have cr := s27 t
  have ce := rEvents t l hl hp
  have cm := s21 t
  simp only [vT, cT] at cr cm
  simp only [vT, cT, slX] at ce
  refine ctr_pure Try.func53 ok53 rfl cc53 cr53 Try.ntmps53 (by simp) rfl rfl ?_; intro c hP hfn; simp only [kc53, vT, cT, slX, vcb, ↓evSo_some, ↓reduceIte, reduceCtorEq, seval]
  repeat' first
      | (first
          | refine TR.p hP (by first | exact cr) (by repeat' first | exact trivial | (intro _; assumption) | apply And.intro) ?_
          | refine TR.gp hP rfl (fun _ => by first | exact cr) (fun _ => by repeat' first | exact trivial | (intro _; assumption) | apply And.intro) ?_
          | refine TR.pv hP rfl (by first | exact cr) trivial (by repeat' first | exact trivial | (intro _; assumption) | apply And.intro) ?_
         try simp only [vcb, ↓evSo_some, ↓reduceIte, reduceCtorEq, seval])
      | refine And.intro (fun h => ?_) (fun h => ?_)
      | refine And.intro (by first | omega | (simp only [maxLen, decide_eq_true_eq, decide_eq_false_iff_not] at *; omega)) ?_
      | (refine TR.aslO rfl rfl rfl rfl trivial (Nat.le_of_ble_eq_true rfl) ?_
         try simp only [vcb, ↓evSo_some, ↓reduceIte, reduceCtorEq, seval])
      | refine And.intro trivial ?_
      | refine And.intro rfl ?_
      | fail
  · have e : bearsE t l = ([], 1) := by
      have h' : (t.kind != 3 || !(rightT t)) = true := by simpa using h
      rw [bearsE, if_pos (by rw [h', Bool.true_or])]
    (refine RetK.pure (by simp only [rs53, rsb, vcb, ↓evSo_some, ↓reduceIte, reduceCtorEq, seval]) (VLe.tups ?_); simp only [rs53, rsb, vcb, ↓evSo_some, ↓reduceIte, reduceCtorEq, seval])
    rw [e]; exact ⟨nilK, VLe.refl _, trivial⟩
  have hk : t.kind = 3 ∧ rightT t = true := by simpa using h
  clear h
  refine vcC.loop (X := Nat) (fun k => ⟨[(1, .d (slX l)), (2, .own 2 0), (6, .d (.int .i64 k))], [(2, .fix (cT t))], [2]⟩)
    (fun k => k ≤ l.length ∧ l.any (fun x => !(lossX x)) = (l.drop k).any (fun x => !(lossX x))) (fun k => l.length - k) 0 ⟨Nat.zero_le _, rfl⟩ (Wk.of _ hfn rfl (by simp only [slX, enb, vcb, ↓evSo_some, ↓reduceIte, reduceCtorEq, seval]) (by simp only [cT, enb, vcb, ↓evSo_some, ↓reduceIte, reduceCtorEq, seval])) ?_
  rintro k ⟨hkl, he⟩
  simp only [slX, cT, vcb, ↓evSo_some, ↓reduceIte, reduceCtorEq, seval]
  refine ⟨fun h1 => ?_, fun h1 => ?_⟩
  · have hlt : k < l.length := by have := of_decide_eq_true h1; omega
    obtain ⟨x, hd, hg, -, -⟩ := drop_at hlt
    have cl := s29 x
    simp only [vX, cX'] at cl
    rw [hd, List.any_cons] at he
    simp only [hg, vcb, ↓evSo_some, ↓reduceIte, reduceCtorEq, seval]
    repeat' first
        | (first
            | refine TR.p hP (by first | exact cl) (by repeat' first | exact trivial | (intro _; assumption) | apply And.intro) ?_
            | refine TR.gp hP rfl (fun _ => by first | exact cl) (fun _ => by repeat' first | exact trivial | (intro _; assumption) | apply And.intro) ?_
            | refine TR.pv hP rfl (by first | exact cl) trivial (by repeat' first | exact trivial | (intro _; assumption) | apply And.intro) ?_
           try simp only [hg, vcb, ↓evSo_some, ↓reduceIte, reduceCtorEq, seval])
        | refine And.intro (fun h => ?_) (fun h => ?_)
        | refine And.intro (by first | omega | (simp only [maxLen, decide_eq_true_eq, decide_eq_false_iff_not] at *; omega)) ?_
        | (refine TR.aslO rfl rfl rfl rfl trivial (Nat.le_of_ble_eq_true rfl) ?_
           try simp only [hg, vcb, ↓evSo_some, ↓reduceIte, reduceCtorEq, seval])
        | refine And.intro trivial ?_
        | refine And.intro rfl ?_
        | fail
    · have e : bearsE t l = ([], 1) := by
        rw [h, Bool.true_or] at he
        rw [bearsE, if_pos (by rw [he, Bool.or_true])]
      (refine RetK.pure (by simp only [rs53, rsb, vcb, ↓evSo_some, ↓reduceIte, reduceCtorEq, seval]) (VLe.tups ?_); simp only [rs53, rsb, vcb, ↓evSo_some, ↓reduceIte, reduceCtorEq, seval])
      rw [e]; exact ⟨nilK, VLe.refl _, trivial⟩
    · rw [h, Bool.false_or] at he
      exact lopK.on (k + 1) ⟨hlt, he⟩ (by omega) (Wk.of _ hfn rfl (by simp only [slX, enb, vcb, ↓evSo_some, ↓reduceIte, reduceCtorEq, seval]; exact wS (by omega)) (by simp only [cT, enb, vcb, ↓evSo_some, ↓reduceIte, reduceCtorEq, seval]))
  have hkk : k = l.length := by have := of_decide_eq_false h1; omega
  rw [hkk, List.drop_length, List.any_nil] at he
  have hX : ∀ x, x ∈ l → lossX x = true := fun x hx => by
    have := List.any_eq_false.1 he x hx
    simpa using this
  have e0 : bearsE t l = if 2000 < l.length then ([], 2) else (bearsF t l (roomT t) (eventsT t l) (List.replicate l.length 0), 0) := by
    rw [bearsE, if_neg (by rw [he, hk.1, hk.2]; simp)]
  clear he h1 hkk hkl
  repeat' first
      | (first
          | refine TR.p hP (by first | exact cm | exact ce) (by repeat' first | exact trivial | (intro _; assumption) | apply And.intro) ?_
          | refine TR.gp hP rfl (fun _ => by first | exact cm | exact ce) (fun _ => by repeat' first | exact trivial | (intro _; assumption) | apply And.intro) ?_
          | refine TR.pv hP rfl (by first | exact cm | exact ce) trivial (by repeat' first | exact trivial | (intro _; assumption) | apply And.intro) ?_
         try simp only [vcb, ↓evSo_some, ↓reduceIte, reduceCtorEq, seval])
      | refine And.intro (fun h => ?_) (fun h => ?_)
      | refine And.intro (by first | omega | (simp only [maxLen, decide_eq_true_eq, decide_eq_false_iff_not] at *; omega)) ?_
      | (refine TR.aslO rfl rfl rfl rfl trivial (Nat.le_of_ble_eq_true rfl) ?_
         try simp only [vcb, ↓evSo_some, ↓reduceIte, reduceCtorEq, seval])
      | refine And.intro trivial ?_
      | refine And.intro rfl ?_
      | fail
  · have h2 : 2000 < l.length := by have := of_decide_eq_true h; omega
    rw [if_pos h2] at e0
    (refine RetK.pure (by simp only [rs53, rsb, vcb, ↓evSo_some, ↓reduceIte, reduceCtorEq, seval]) (VLe.tups ?_); simp only [rs53, rsb, vcb, ↓evSo_some, ↓reduceIte, reduceCtorEq, seval])
    rw [e0]; exact ⟨nilK, VLe.refl _, trivial⟩
  have h2 : ¬ 2000 < l.length := by have := of_decide_eq_false h; omega
  rw [if_neg h2] at e0
  clear h
  have hev := events_ok t l
  have hroom := (roomT_eq t).2
  generalize hG : eventsT t l = G at *
  have hbs := fun g (hg : g ∈ G) => amts_bounds hX (hev.2.2 g hg)
  refine vcC.loop (X := Nat × Int × List Int) (fun x => ⟨[(1, .d (slX l)), (2, .own 2 0), (7, .osl 43), (8, .d (.int .i64 x.2.1)), (9, gD G), (10, .d (.int .i64 x.1))],
      [(2, .fix (cT t)), (43, .row 3 1 x.2.2.length (fun i => [.int .i64 (x.2.2.getD i 0)]))], [2, 43]⟩)
    (fun x => x.1 ≤ G.length ∧ x.2.2.length = l.length ∧ 0 ≤ x.2.1 ∧ x.2.1 ≤ roomT t ∧ bearsF t l (roomT t) G (List.replicate l.length 0) = bearsF t l x.2.1 (G.drop x.1) x.2.2) (fun x => G.length - x.1) (0, roomT t, List.replicate l.length 0) ⟨Nat.zero_le _, by simp, hroom.1, Int.le_refl _, rfl⟩
    (Wk.of _ hfn rfl (by simp only [slX, gD, enb, vcb, ↓evSo_some, ↓reduceIte, reduceCtorEq, seval]) (by simp only [cT, enb, vcb, ↓evSo_some, ↓reduceIte, reduceCtorEq, seval]; exact OLe.row (by simp) fun i hi => by simp [List.getD_eq_getElem?_getD, List.getElem?_replicate, hi])) ?_
  rintro ⟨j, left, out⟩ ⟨hj, hout, hl0, hl1, he⟩
  simp only at hj hout hl0 hl1 he
  simp only [slX, cT, gD, vcb, ↓evSo_some, ↓reduceIte, reduceCtorEq, seval]
  refine ⟨fun h1 => ?_, fun h1 => ?_⟩
  · have hlt : j < G.length := by have := of_decide_eq_true h1; omega
    obtain ⟨g, hd, hgd, hgm, -⟩ := drop_at hlt
    have hgb := hbs g hgm
    have hge := hev.2.1 g hgm
    have hgi := hev.2.2 g hgm
    rw [hd, bearsF] at he
    have hsn : (amtsT l g).length = g.length := by rw [amtsT, List.length_map]
    have ca := rAmts l g (by omega) hgi
    have cs := rSum (amtsT l g) (by omega) (fun a ha => (hgb.1 a ha).1)
    have hsum : (amtsT l g).sum ≤ 2000000000000000000 := by have := hgb.2.2; omega
    rw [sum1R, if_neg (by omega)] at cs
    have cp := s19 t (amtsT l g).sum
    simp only [vT, cT] at cp
    simp only [slX, slK] at ca
    simp only [slK] at cs
    simp only [nestD, cI, hgd, vcb, ↓evSo_some, ↓reduceIte, reduceCtorEq, seval]
    repeat' first
        | (first
            | refine TR.p hP (by first | exact ca | exact cs | exact cp) (by repeat' first | exact trivial | (intro _; assumption) | apply And.intro) ?_
            | refine TR.gp hP rfl (fun _ => by first | exact ca | exact cs | exact cp) (fun _ => by repeat' first | exact trivial | (intro _; assumption) | apply And.intro) ?_
            | refine TR.pv hP rfl (by first | exact ca | exact cs | exact cp) trivial (by repeat' first | exact trivial | (intro _; assumption) | apply And.intro) ?_
           try simp only [nestD, cI, hgd, vcb, ↓evSo_some, ↓reduceIte, reduceCtorEq, seval])
        | refine And.intro (fun h => ?_) (fun h => ?_)
        | refine And.intro (by first | omega | (simp only [maxLen, decide_eq_true_eq, decide_eq_false_iff_not] at *; omega)) ?_
        | (refine TR.aslO rfl rfl rfl rfl trivial (Nat.le_of_ble_eq_true rfl) ?_
           try simp only [nestD, cI, hgd, vcb, ↓evSo_some, ↓reduceIte, reduceCtorEq, seval])
        | refine And.intro trivial ?_
        | refine And.intro rfl ?_
        | fail
    · have h' := of_decide_eq_true h
      have hmin : min left (partT t (amtsT l g).sum) = left := by omega
      have hpn := part_nn t (amt := (amtsT l g).sum) hgb.2.1 (by omega)
      rw [hmin] at he
      have hb0 : 0 ≤ left ∧ left ≤ left := by omega
      have ewl : IntKind.i64.wrap (left - left) = left - left := wI (by omega)
      have csp := rSplit (left) (amtsT l g) (by omega) (by omega)
      have hsl := split_len (left) (amtsT l g)
      simp only [slK] at csp
      simp only [ewl]
      repeat' first
          | (first
              | refine TR.p hP (by first | exact csp) (by repeat' first | exact trivial | (intro _; assumption) | apply And.intro) ?_
              | refine TR.gp hP rfl (fun _ => by first | exact csp) (fun _ => by repeat' first | exact trivial | (intro _; assumption) | apply And.intro) ?_
              | refine TR.pv hP rfl (by first | exact csp) trivial (by repeat' first | exact trivial | (intro _; assumption) | apply And.intro) ?_
             try simp only [vcb, ↓evSo_some, ↓reduceIte, reduceCtorEq, seval])
          | refine And.intro (fun h => ?_) (fun h => ?_)
          | refine And.intro (by first | omega | (simp only [maxLen, decide_eq_true_eq, decide_eq_false_iff_not] at *; omega)) ?_
          | (refine TR.aslO rfl rfl rfl rfl trivial (Nat.le_of_ble_eq_true rfl) ?_
             try simp only [vcb, ↓evSo_some, ↓reduceIte, reduceCtorEq, seval])
          | refine And.intro trivial ?_
          | refine And.intro rfl ?_
          | fail
      generalize hds : (splitR (left) (amtsT l g)) = dd at *
      obtain ⟨ds, ec⟩ := dd
      simp only at hsl he
      refine vcC.loop (X := Nat × List Int) (fun x => ⟨[(1, .d (slX l)), (2, .own 2 0), (7, .osl 43), (8, .d (.int .i64 (left - left))), (9, gD G), (10, .d (.int .i64 j)), (15, .d (slK .i64 ds)), (16, .d (.int .i64 ec)), (17, .d (.int .i64 x.1))],
          [(2, .fix (cT t)), (43, .row 3 1 x.2.length (fun i => [.int .i64 (x.2.getD i 0)]))], [2, 43]⟩)
        (fun x => x.1 ≤ ds.length ∧ x.2.length = l.length ∧ putAll out g ds = putAll x.2 (g.drop x.1) (ds.drop x.1)) (fun x => ds.length - x.1) (0, out) ⟨Nat.zero_le _, hout, rfl⟩
        (Wk.of _ hfn rfl (by simp only [slX, gD, nestD, cI, enb, vcb, ↓evSo_some, ↓reduceIte, reduceCtorEq, seval]) (by simp only [cT, enb, vcb, ↓evSo_some, ↓reduceIte, reduceCtorEq, seval])) ?_
      rintro ⟨q, cur⟩ ⟨hq, hcur, hpa⟩
      simp only at hq hcur hpa
      simp only [slX, cT, gD, nestD, cI, hgd, vcb, ↓evSo_some, ↓reduceIte, reduceCtorEq, seval]
      refine ⟨fun h3 => ?_, fun h3 => ?_⟩
      · rw [Bool.and_eq_true, decide_eq_true_eq] at h3
        have hlq : q < ds.length := by omega
        obtain ⟨m, hd3, hgm3, -, -⟩ := drop_at hlq
        obtain ⟨x, hd4, hgx, hxm, -⟩ := drop_at (l := g) (k := q) (by omega)
        have hb4 := hgi x hxm
        have hb5 : (0 : Int) ≤ x ∧ x < (cur.length : Int) := by rw [hcur]; exact hb4
        rw [hd3, hd4, putAll] at hpa
        simp only [hgm3, hgx, vcb, ↓evSo_some, ↓reduceIte, reduceCtorEq, seval]
        repeat' first
            | refine And.intro (fun h => ?_) (fun h => ?_)
            | refine And.intro (by first | omega | (simp only [maxLen, decide_eq_true_eq, decide_eq_false_iff_not] at *; omega)) ?_
            | (refine TR.aslO rfl rfl rfl rfl trivial (Nat.le_of_ble_eq_true rfl) ?_
               try simp only [hgm3, hgx, nestD, cI, hgd, vcb, ↓evSo_some, ↓reduceIte, reduceCtorEq, seval])
            | refine And.intro trivial ?_
            | refine And.intro rfl ?_
            | fail
        exact lopK.on (q + 1, cur.set x.toNat m) ⟨hlq, by simp [hcur], hpa⟩ (by simp only; omega) (Wk.of _ hfn rfl (by simp only [slX, gD, nestD, cI, enb, vcb, ↓evSo_some, ↓reduceIte, reduceCtorEq, seval]; exact wS (by omega)) (by simp only [cT, enb, vcb, ↓evSo_some, ↓reduceIte, reduceCtorEq, seval]; exact OLe.row (by simp) fun i hi => putI hi))
      · have hfin : putAll cur (g.drop q) (ds.drop q) = cur := by
          have hqe : q = ds.length := by
            rw [Bool.and_eq_false_iff] at h3
            rcases h3 with h3 | h3
            · have := of_decide_eq_false h3; omega
            · have : ds = [] := hsl.2 (by simpa using h3)
              rw [this] at hq ⊢; simpa using hq
          rw [hqe, List.drop_length]
          cases g.drop ds.length <;> simp [putAll]
        rw [hfin] at hpa
        rw [hpa] at he
        exact lopK.on (j + 1, left - left, cur) ⟨hlt, hcur, by simp only; omega, by simp only; omega, he⟩ (by simp only; omega) (Wk.of _ hfn rfl (by simp only [slX, gD, nestD, cI, enb, vcb, ↓evSo_some, ↓reduceIte, reduceCtorEq, seval]; exact wS (by omega)) (by simp only [cT, enb, vcb, ↓evSo_some, ↓reduceIte, reduceCtorEq, seval]))
    · have h' := of_decide_eq_false h
      have hmin : min left (partT t (amtsT l g).sum) = partT t (amtsT l g).sum := by omega
      have hpn := part_nn t (amt := (amtsT l g).sum) hgb.2.1 (by omega)
      rw [hmin] at he
      generalize hbB : partT t (amtsT l g).sum = b at *
      have hb0 : 0 ≤ b ∧ b ≤ left := by omega
      have ewl : IntKind.i64.wrap (left - b) = left - b := wI (by omega)
      have csp := rSplit (b) (amtsT l g) (by omega) (by omega)
      have hsl := split_len (b) (amtsT l g)
      simp only [slK] at csp
      simp only [ewl]
      repeat' first
          | (first
              | refine TR.p hP (by first | exact csp) (by repeat' first | exact trivial | (intro _; assumption) | apply And.intro) ?_
              | refine TR.gp hP rfl (fun _ => by first | exact csp) (fun _ => by repeat' first | exact trivial | (intro _; assumption) | apply And.intro) ?_
              | refine TR.pv hP rfl (by first | exact csp) trivial (by repeat' first | exact trivial | (intro _; assumption) | apply And.intro) ?_
             try simp only [vcb, ↓evSo_some, ↓reduceIte, reduceCtorEq, seval])
          | refine And.intro (fun h => ?_) (fun h => ?_)
          | refine And.intro (by first | omega | (simp only [maxLen, decide_eq_true_eq, decide_eq_false_iff_not] at *; omega)) ?_
          | (refine TR.aslO rfl rfl rfl rfl trivial (Nat.le_of_ble_eq_true rfl) ?_
             try simp only [vcb, ↓evSo_some, ↓reduceIte, reduceCtorEq, seval])
          | refine And.intro trivial ?_
          | refine And.intro rfl ?_
          | fail
      generalize hds : (splitR (b) (amtsT l g)) = dd at *
      obtain ⟨ds, ec⟩ := dd
      simp only at hsl he
      refine vcC.loop (X := Nat × List Int) (fun x => ⟨[(1, .d (slX l)), (2, .own 2 0), (7, .osl 43), (8, .d (.int .i64 (left - b))), (9, gD G), (10, .d (.int .i64 j)), (15, .d (slK .i64 ds)), (16, .d (.int .i64 ec)), (17, .d (.int .i64 x.1))],
          [(2, .fix (cT t)), (43, .row 3 1 x.2.length (fun i => [.int .i64 (x.2.getD i 0)]))], [2, 43]⟩)
        (fun x => x.1 ≤ ds.length ∧ x.2.length = l.length ∧ putAll out g ds = putAll x.2 (g.drop x.1) (ds.drop x.1)) (fun x => ds.length - x.1) (0, out) ⟨Nat.zero_le _, hout, rfl⟩
        (Wk.of _ hfn rfl (by simp only [slX, gD, nestD, cI, enb, vcb, ↓evSo_some, ↓reduceIte, reduceCtorEq, seval]) (by simp only [cT, enb, vcb, ↓evSo_some, ↓reduceIte, reduceCtorEq, seval])) ?_
      rintro ⟨q, cur⟩ ⟨hq, hcur, hpa⟩
      simp only at hq hcur hpa
      simp only [slX, cT, gD, nestD, cI, hgd, vcb, ↓evSo_some, ↓reduceIte, reduceCtorEq, seval]
      refine ⟨fun h3 => ?_, fun h3 => ?_⟩
      · rw [Bool.and_eq_true, decide_eq_true_eq] at h3
        have hlq : q < ds.length := by omega
        obtain ⟨m, hd3, hgm3, -, -⟩ := drop_at hlq
        obtain ⟨x, hd4, hgx, hxm, -⟩ := drop_at (l := g) (k := q) (by omega)
        have hb4 := hgi x hxm
        have hb5 : (0 : Int) ≤ x ∧ x < (cur.length : Int) := by rw [hcur]; exact hb4
        rw [hd3, hd4, putAll] at hpa
        simp only [hgm3, hgx, vcb, ↓evSo_some, ↓reduceIte, reduceCtorEq, seval]
        repeat' first
            | refine And.intro (fun h => ?_) (fun h => ?_)
            | refine And.intro (by first | omega | (simp only [maxLen, decide_eq_true_eq, decide_eq_false_iff_not] at *; omega)) ?_
            | (refine TR.aslO rfl rfl rfl rfl trivial (Nat.le_of_ble_eq_true rfl) ?_
               try simp only [hgm3, hgx, nestD, cI, hgd, vcb, ↓evSo_some, ↓reduceIte, reduceCtorEq, seval])
            | refine And.intro trivial ?_
            | refine And.intro rfl ?_
            | fail
        exact lopK.on (q + 1, cur.set x.toNat m) ⟨hlq, by simp [hcur], hpa⟩ (by simp only; omega) (Wk.of _ hfn rfl (by simp only [slX, gD, nestD, cI, enb, vcb, ↓evSo_some, ↓reduceIte, reduceCtorEq, seval]; exact wS (by omega)) (by simp only [cT, enb, vcb, ↓evSo_some, ↓reduceIte, reduceCtorEq, seval]; exact OLe.row (by simp) fun i hi => putI hi))
      · have hfin : putAll cur (g.drop q) (ds.drop q) = cur := by
          have hqe : q = ds.length := by
            rw [Bool.and_eq_false_iff] at h3
            rcases h3 with h3 | h3
            · have := of_decide_eq_false h3; omega
            · have : ds = [] := hsl.2 (by simpa using h3)
              rw [this] at hq ⊢; simpa using hq
          rw [hqe, List.drop_length]
          cases g.drop ds.length <;> simp [putAll]
        rw [hfin] at hpa
        rw [hpa] at he
        exact lopK.on (j + 1, left - b, cur) ⟨hlt, hcur, by simp only; omega, by simp only; omega, he⟩ (by simp only; omega) (Wk.of _ hfn rfl (by simp only [slX, gD, nestD, cI, enb, vcb, ↓evSo_some, ↓reduceIte, reduceCtorEq, seval]; exact wS (by omega)) (by simp only [cT, enb, vcb, ↓evSo_some, ↓reduceIte, reduceCtorEq, seval]))
  · have hjn : j = G.length := by have := of_decide_eq_false h1; omega
    rw [hjn, List.drop_length, bearsF] at he
    repeat' first
        | refine And.intro (fun h => ?_) (fun h => ?_)
        | refine And.intro (by first | omega | (simp only [maxLen, decide_eq_true_eq, decide_eq_false_iff_not] at *; omega)) ?_
        | (refine TR.aslO rfl rfl rfl rfl trivial (Nat.le_of_ble_eq_true rfl) ?_
           try simp only [vcb, ↓evSo_some, ↓reduceIte, reduceCtorEq, seval])
        | refine And.intro trivial ?_
        | refine And.intro rfl ?_
        | fail
    refine RetK.mk _ ((Wk.of (b := ⟨[(4, .osl 43), (5, .d (.int .i64 0))], [(43, .row 3 1 out.length (fun i => [.int .i64 (out.getD i 0)]))], [43]⟩) _ hfn rfl (by simp only [enb, vcb, ↓evSo_some, ↓reduceIte, reduceCtorEq, seval]) (by simp only [enb, vcb, ↓evSo_some, ↓reduceIte, reduceCtorEq, seval])).trans (Wk.pub 43 rfl)) (by simp only [rs53, rsb, vcb, ↓evSo_some, ↓reduceIte, reduceCtorEq, seval]) ?_ trivial
    simp only [rs53, rsb, vcb, ↓evSo_some, ↓reduceIte, reduceCtorEq, seval]
    rw [e0, he]; exact VLe.tups ⟨VLe.refl _, VLe.refl _, trivial⟩
end Go.Proofs.Ytgpckelpmincmaa
end
section
set_option linter.unusedSimpArgs false
set_option linter.unusedVariables false
namespace Go.Proofs.Ytgpckelpmincmaa
set_option linter.unusedSimpArgs false
set_option linter.unusedVariables false
open Go.Bx
set_option maxRecDepth 10000
set_option maxHeartbeats 2000000 in
theorem rTBears (t : Tr) (l : List Ls) (hl : l.length ≤ 1000000) (hp : ∀ x, x ∈ l → x.per ≤ 9223372036854775807) : Ctr Try.prog 29 [vT t, .d (slX l)] [] (.d (slK .i64 (bearsA t l))) [] [] := by
  have c1 := s16 t l (by omega) hp
  have c2 := rBears t l hl hp
  simp only [vT, cT, slX, slK] at c1 c2
  refine ctr_pure Try.func29 ok29 rfl cc29 cr29 Try.ntmps29 (by simp) rfl rfl ?_; intro c hP hfn; simp only [kc29, vT, cT, slX, vcb, ↓evSo_some, ↓reduceIte, reduceCtorEq, seval]
  repeat' first
      | (first
          | refine TR.p hP (by first | exact c1 | exact c2) (by repeat' first | exact trivial | (intro _; assumption) | apply And.intro) ?_
          | refine TR.gp hP rfl (fun _ => by first | exact c1 | exact c2) (fun _ => by repeat' first | exact trivial | (intro _; assumption) | apply And.intro) ?_
          | refine TR.pv hP rfl (by first | exact c1 | exact c2) trivial (by repeat' first | exact trivial | (intro _; assumption) | apply And.intro) ?_
         try simp only [vcb, ↓evSo_some, ↓reduceIte, reduceCtorEq, seval])
      | refine And.intro (fun h => ?_) (fun h => ?_)
      | refine And.intro (by first | omega | (simp only [maxLen, decide_eq_true_eq, decide_eq_false_iff_not] at *; omega)) ?_
      | (refine TR.aslO rfl rfl rfl rfl trivial (Nat.le_of_ble_eq_true rfl) ?_
         try simp only [vcb, ↓evSo_some, ↓reduceIte, reduceCtorEq, seval])
      | refine And.intro trivial ?_
      | refine And.intro rfl ?_
      | fail
  · have h2 : t.kind = 2 := by simpa using h
    refine RetK.mk _ (Wk.refl _ _) (by simp only [rs29, rsb, vcb, ↓evSo_some, ↓reduceIte, reduceCtorEq, seval]) ?_ trivial
    simp only [rs29, rsb, vcb, ↓evSo_some, ↓reduceIte, reduceCtorEq, seval]
    rw [bearsA, if_pos h2]; exact VLe.refl _
  · rename_i h8
    have h2 : ¬ t.kind = 2 := by simpa using h8
    have h3 : t.kind = 3 := by simpa using h
    refine RetK.mk _ (Wk.refl _ _) (by simp only [rs29, rsb, vcb, ↓evSo_some, ↓reduceIte, reduceCtorEq, seval]) ?_ trivial
    simp only [rs29, rsb, vcb, ↓evSo_some, ↓reduceIte, reduceCtorEq, seval]
    rw [bearsA, if_neg h2, if_pos h3]; exact VLe.refl _
  · rename_i h8
    have h2 : ¬ t.kind = 2 := by simpa using h8
    have h3 : ¬ t.kind = 3 := by simpa using h
    have e0 : bearsA t l = l.map fun x => (bearsQ t x).1 := by rw [bearsA, if_neg h2, if_neg h3]
    clear c1 c2
    refine vcC.loop (X := List Int) (fun x => ⟨[(1, .d (slX l)), (2, .own 2 0), (9, .osl 1000), (10, .d (.int .i64 x.length))], [(2, .fix (cT t)), (1000, .row 3 1 x.length (fun i => [.int .i64 (x.getD i 0)]))], [2, 1000]⟩)
      (fun x => x.length ≤ l.length ∧ (l.map fun x => (bearsQ t x).1) = x ++ (l.drop x.length).map fun x => (bearsQ t x).1) (fun x => l.length - x.length) [] ⟨Nat.zero_le _, by simp⟩
      ((Wk.row0 (s := 9) (k := 1000) (e := 3) (sz := 1) (f' := fun _ => []) rfl rfl (by simp)).trans (Wk.of _ hfn rfl (by simp only [slX, enb, vcb, ↓evSo_some, ↓reduceIte, reduceCtorEq, seval]) (by simp only [cT, enb, vcb, ↓evSo_some, ↓reduceIte, reduceCtorEq, seval]; exact OLe.row rfl (fun i hi => absurd hi (Nat.not_lt_zero i))))) ?_
    rintro dn ⟨hk, he⟩
    simp only [slX, cT, vcb, ↓evSo_some, ↓reduceIte, reduceCtorEq, seval]
    refine ⟨fun h1 => ?_, fun h1 => ?_⟩
    · have hlt : dn.length < l.length := by have := of_decide_eq_true h1; omega
      obtain ⟨x, hd, hg, hxm, -⟩ := drop_at hlt
      have cq := q32 t x (hp x hxm)
      simp only [vT, cT, vX, cX'] at cq
      have hbytes : (dn.length + 1) * 8 ≤ 140737488355328 := by omega
      have hmx : dn.length + 1 ≤ maxLen := by simp only [maxLen]; omega
      rw [hd, List.map_cons] at he
      simp only [hg, vcb, ↓evSo_some, ↓reduceIte, reduceCtorEq, seval]
      repeat' first
          | (first
              | refine TR.p hP (by first | exact cq) (by repeat' first | exact trivial | (intro _; assumption) | apply And.intro) ?_
              | refine TR.gp hP rfl (fun _ => by first | exact cq) (fun _ => by repeat' first | exact trivial | (intro _; assumption) | apply And.intro) ?_
              | refine TR.pv hP rfl (by first | exact cq) trivial (by repeat' first | exact trivial | (intro _; assumption) | apply And.intro) ?_
             try simp only [hg, vcb, ↓evSo_some, ↓reduceIte, reduceCtorEq, seval])
          | refine And.intro (fun h => ?_) (fun h => ?_)
          | refine And.intro (by first | omega | (simp only [maxLen, decide_eq_true_eq, decide_eq_false_iff_not] at *; omega)) ?_
          | (refine TR.aslO rfl rfl rfl rfl trivial (Nat.le_of_ble_eq_true rfl) ?_
             try simp only [hg, vcb, ↓evSo_some, ↓reduceIte, reduceCtorEq, seval])
          | refine And.intro trivial ?_
          | refine And.intro rfl ?_
          | fail
      exact lopK.on (dn ++ [(bearsQ t x).1]) ⟨by simp; omega, by rw [he]; simp⟩ (by simp; omega) ((Wk.sw 51 1000 _ hfn (by simp) (by simp)).trans (Wk.of _ hfn rfl (by simp only [slX, List.length_append, List.length_singleton, enb, vcb, ↓evSo_some, ↓reduceIte, reduceCtorEq, seval]; exact wS (by omega)) (by simp only [cT, enb, vcb, ↓evSo_some, ↓reduceIte, reduceCtorEq, seval]; exact OLe.app1 (fun n : Int => [.int .i64 n]) (fun i hi => by simp [hi]) (by simp [litRow]))))
    · have hkl : dn.length = l.length := by have := of_decide_eq_false h1; omega
      rw [hkl, List.drop_length, List.map_nil, List.append_nil] at he
      repeat' first
          | refine And.intro (fun h => ?_) (fun h => ?_)
          | refine And.intro (by first | omega | (simp only [maxLen, decide_eq_true_eq, decide_eq_false_iff_not] at *; omega)) ?_
          | (refine TR.aslO rfl rfl rfl rfl trivial (Nat.le_of_ble_eq_true rfl) ?_
             try simp only [vcb, ↓evSo_some, ↓reduceIte, reduceCtorEq, seval])
          | refine And.intro trivial ?_
          | refine And.intro rfl ?_
          | fail
      refine RetK.mk _ (Wk.pub 1000 rfl) (by simp only [rs29, rsb, vcb, ↓evSo_some, ↓reduceIte, reduceCtorEq, seval]) ?_ trivial
      simp only [rs29, rsb, vcb, ↓evSo_some, ↓reduceIte, reduceCtorEq, seval]
      rw [e0, he]
      exact VLe.refl _
end Go.Proofs.Ytgpckelpmincmaa
end
section
set_option linter.unusedSimpArgs false
set_option linter.unusedVariables false
namespace Go.Proofs.Ytgpckelpmincmaa
set_option linter.unusedSimpArgs false
set_option linter.unusedVariables false
open Go.Bx
set_option maxRecDepth 10000
def withX (l : List Ls) (a : List Int) : List Ls := List.zipWith (fun x m => { x with amt := m }) l a
def rowI (l : List Int) : Own := .row 3 1 l.length (fun i => [.int .i64 (l.getD i 0)])
def rowX (l : List Ls) : Own := .row 39 5 l.length (fun i => [.int .i64 (l.getD i default).cl, .int .i64 (l.getD i default).ev, .int .i64 (l.getD i default).day, .int .i64 (l.getD i default).per, .int .i64 (l.getD i default).amt])
def cXD (x : Ls) : List D := [.int .i64 x.cl, .int .i64 x.ev, .int .i64 x.day, .int .i64 x.per, .int .i64 x.amt]
set_option maxHeartbeats 1000000 in
theorem rWith (l : List Ls) (a : List Int) (hal : a.length = l.length) (hl : l.length ≤ 1000000) : Ctr Try.prog 27 [.d (slX l), .osl 2] [(2, rowI a)] (.d (slX (withX l a))) [(2, rowI a)] [] := by
  refine ctr_own Try.func27 ok27 rfl cc27 cr27 Try.ntmps27 (by simp) rfl ?_
  intro c hP hfn
  simp only [kc27, namesL, V.names, ownNames, slX, rowI, vcb, ↓evSo_some, ↓reduceIte, reduceCtorEq, seval]
  refine vcC.loop (X := List Ls) (fun x => ⟨[(0, .d (slX l)), (1, .osl 2), (5, .osl 1000), (6, .d (.int .i64 x.length))], [(2, rowI a), (1000, rowX x)], [2, 1000]⟩)
    (fun x => x.length ≤ l.length ∧ withX l a = x ++ withX (l.drop x.length) (a.drop x.length)) (fun x => l.length - x.length) [] ⟨Nat.zero_le _, by simp⟩
    ((Wk.row0 (s := 5) (k := 1000) (e := 39) (sz := 5) (f' := fun _ => []) rfl rfl (by simp)).trans (Wk.of _ hfn rfl (by simp only [slX, enb, vcb, ↓evSo_some, ↓reduceIte, reduceCtorEq, seval]) (by simp only [rowI, rowX, enb, vcb, ↓evSo_some, ↓reduceIte, reduceCtorEq, seval]; exact OLe.row rfl (fun i hi => absurd hi (Nat.not_lt_zero i))))) ?_
  rintro dn ⟨hk, he⟩
  simp only [slX, rowI, rowX, vcb, ↓evSo_some, ↓reduceIte, reduceCtorEq, seval]
  refine ⟨fun h1 => ?_, fun h1 => ?_⟩
  · have hlt : dn.length < l.length := by have := of_decide_eq_true h1; omega
    obtain ⟨x, hd, hg, hxm, -⟩ := drop_at hlt
    obtain ⟨m, hd2, hg2, hmm, -⟩ := drop_at (show dn.length < a.length by omega)
    have hbytes : (dn.length + 1) * 40 ≤ 140737488355328 := by omega
    have hmx : dn.length + 1 ≤ maxLen := by simp only [maxLen]; omega
    have hal' : (dn.length : Int) < (a.length : Int) := by omega
    rw [hd, hd2] at he
    simp only [hg, hg2, vcb, ↓evSo_some, ↓reduceIte, reduceCtorEq, seval]
    repeat' first
        | refine And.intro (fun h => ?_) (fun h => ?_)
        | refine And.intro (by first | omega | (simp only [maxLen, decide_eq_true_eq, decide_eq_false_iff_not] at *; omega)) ?_
        | (refine TR.aslO rfl rfl rfl rfl trivial (Nat.le_of_ble_eq_true rfl) ?_
           try simp only [hg, hg2, vcb, ↓evSo_some, ↓reduceIte, reduceCtorEq, seval])
        | refine And.intro trivial ?_
        | refine And.intro rfl ?_
        | fail
    refine lopK.on (dn ++ [{ x with amt := m }]) ⟨by simp; omega, ?_⟩ (by simp; omega) ((Wk.sw 26 1000 _ hfn (by simp [namesL, V.names, ownNames, slX, rowI]) (by simp [namesL, V.names, ownNames, slX, rowI])).trans (Wk.of _ hfn rfl (by simp only [slX, List.length_append, List.length_singleton, enb, vcb, ↓evSo_some, ↓reduceIte, reduceCtorEq, seval]; exact wS (by omega)) (by simp only [rowI, rowX, enb, vcb, ↓evSo_some, ↓reduceIte, reduceCtorEq, seval]; exact OLe.app1 cXD (fun i hi => by simp [hi, cXD]) (by simp [litRow, cXD]))))
    rw [he]; simp [withX]
  · have hkl : dn.length = l.length := by have := of_decide_eq_false h1; omega
    have hka : dn.length = a.length := by omega
    have he2 : withX l a = dn := by rw [he, hkl, List.drop_length]; simp [withX]
    repeat' first
        | refine And.intro (fun h => ?_) (fun h => ?_)
        | refine And.intro (by first | omega | (simp only [maxLen, decide_eq_true_eq, decide_eq_false_iff_not] at *; omega)) ?_
        | (refine TR.aslO rfl rfl rfl rfl trivial (Nat.le_of_ble_eq_true rfl) ?_
           try simp only [vcb, ↓evSo_some, ↓reduceIte, reduceCtorEq, seval])
        | refine And.intro trivial ?_
        | refine And.intro rfl ?_
        | fail
    refine RetK.mk _ (Wk.pub 1000 rfl) (by simp only [rs27, rsb, vcb, ↓evSo_some, ↓reduceIte, reduceCtorEq, seval]) ?_ ?_
    · simp only [rs27, rsb, vcb, ↓evSo_some, ↓reduceIte, reduceCtorEq, seval]
      rw [he2]; exact VLe.refl _
    · simp only [enb, vcb, ↓evSo_some, ↓reduceIte, reduceCtorEq, seval]
theorem sCloneX (l : List Ls) (hl : l.length ≤ 1000000) : Ctr Try.prog 24 [.d (slX l)] [] (.osl 7) [(7, rowX l)] [7] := by
  refine ctr_own Try.func24 ok24 rfl cc24 cr24 Try.ntmps24 (by simp) rfl ?_
  intro c hP hfn
  simp only [kc24, namesL, V.names, ownNames, slX, vcb, ↓evSo_some, ↓reduceIte, reduceCtorEq, seval]
  refine ⟨fun h => ?_, ?_⟩
  · have h' : l = [] := List.eq_nil_of_length_eq_zero h
    subst h'
    refine RetK.mk _ (Wk.row0 (s := 2) (k := 7) (e := 39) (sz := 5) (f' := fun i => cXD (([] : List Ls).getD i default)) rfl rfl (by simp)) (by simp only [rs24, rsb, vcb, ↓evSo_some, ↓reduceIte, reduceCtorEq, seval]) (by simp only [rs24, rsb, vcb, ↓evSo_some, ↓reduceIte, reduceCtorEq, seval, enb, vcb, ↓evSo_some, ↓reduceIte, reduceCtorEq, seval]) (by simp only [rowX, cXD, enb, vcb, ↓evSo_some, ↓reduceIte, reduceCtorEq, seval])
  · repeat' first
        | refine And.intro (fun h => ?_) (fun h => ?_)
        | refine And.intro (by first | omega | (simp only [maxLen, decide_eq_true_eq, decide_eq_false_iff_not] at *; omega)) ?_
        | (refine TR.aslO rfl rfl rfl rfl trivial (Nat.le_of_ble_eq_true rfl) ?_
           try simp only [vcb, ↓evSo_some, ↓reduceIte, reduceCtorEq, seval])
        | refine And.intro trivial ?_
        | refine And.intro rfl ?_
        | fail
    refine RetK.mk _ (Wk.refl _ _) (by simp only [rs24, rsb, vcb, ↓evSo_some, ↓reduceIte, reduceCtorEq, seval]) (by simp only [rs24, rsb, vcb, ↓evSo_some, ↓reduceIte, reduceCtorEq, seval, enb, vcb, ↓evSo_some, ↓reduceIte, reduceCtorEq, seval]) ?_
    simp only [rowX, enb, vcb, ↓evSo_some, ↓reduceIte, reduceCtorEq, seval]
theorem sCloneD (l : List Ls) (hl : l.length ≤ 1000000) : Ctr Try.prog 24 [.d (slX l)] [] (.d (slX l)) [] [] := by
  refine ctr_pure Try.func24 ok24 rfl cc24 cr24 Try.ntmps24 (by simp) rfl rfl ?_
  intro c hP hfn
  simp only [kc24, slX, vcb, ↓evSo_some, ↓reduceIte, reduceCtorEq, seval]
  refine ⟨fun h => ?_, ?_⟩
  · have h' : l = [] := List.eq_nil_of_length_eq_zero h
    subst h'
    refine RetK.pure (by simp only [rs24, rsb, vcb, ↓evSo_some, ↓reduceIte, reduceCtorEq, seval]) ?_
    simp only [rs24, rsb, vcb, ↓evSo_some, ↓reduceIte, reduceCtorEq, seval]
    exact VLe.nil rfl (by simp)
  · repeat' first
        | refine And.intro (fun h => ?_) (fun h => ?_)
        | refine And.intro (by first | omega | (simp only [maxLen, decide_eq_true_eq, decide_eq_false_iff_not] at *; omega)) ?_
        | (refine TR.aslO rfl rfl rfl rfl trivial (Nat.le_of_ble_eq_true rfl) ?_
           try simp only [vcb, ↓evSo_some, ↓reduceIte, reduceCtorEq, seval])
        | refine And.intro trivial ?_
        | refine And.intro rfl ?_
        | fail
    refine RetK.mk _ (Wk.pub 7 rfl) (by simp only [rs24, rsb, vcb, ↓evSo_some, ↓reduceIte, reduceCtorEq, seval]) ?_ trivial
    simp only [rs24, rsb, vcb, ↓evSo_some, ↓reduceIte, reduceCtorEq, seval, enb, vcb, ↓evSo_some, ↓reduceIte, reduceCtorEq, seval]
theorem sCloneE (l : List Ls) (hl : l.length ≤ 1000000) : Ctr Try.prog 24 [.osl 1] [(1, rowX l)] (.d (slX l)) [(1, rowX l)] [] := by
  refine ctr_own Try.func24 ok24 rfl cc24 cr24 Try.ntmps24 (by simp) rfl ?_
  intro c hP hfn
  simp only [kc24, namesL, V.names, ownNames, rowX, vcb, ↓evSo_some, ↓reduceIte, reduceCtorEq, seval]
  refine ⟨fun h => ?_, ?_⟩
  · have h' : l = [] := List.eq_nil_of_length_eq_zero h
    subst h'
    refine RetK.mk _ (Wk.refl _ _) (by simp only [rs24, rsb, vcb, ↓evSo_some, ↓reduceIte, reduceCtorEq, seval]) ?_ (by simp only [rowX, enb, vcb, ↓evSo_some, ↓reduceIte, reduceCtorEq, seval])
    simp only [rs24, rsb, vcb, ↓evSo_some, ↓reduceIte, reduceCtorEq, seval]
    exact VLe.nil rfl (by simp)
  · repeat' first
        | refine And.intro (fun h => ?_) (fun h => ?_)
        | refine And.intro (by first | omega | (simp only [maxLen, decide_eq_true_eq, decide_eq_false_iff_not] at *; omega)) ?_
        | (refine TR.aslO rfl rfl rfl rfl trivial (Nat.le_of_ble_eq_true rfl) ?_
           try simp only [vcb, ↓evSo_some, ↓reduceIte, reduceCtorEq, seval])
        | refine And.intro trivial ?_
        | refine And.intro rfl ?_
        | fail
    refine RetK.mk _ (Wk.pub 7 rfl) (by simp only [rs24, rsb, vcb, ↓evSo_some, ↓reduceIte, reduceCtorEq, seval]) ?_ ?_
    · simp only [rs24, rsb, vcb, ↓evSo_some, ↓reduceIte, reduceCtorEq, seval, slX, enb, vcb, ↓evSo_some, ↓reduceIte, reduceCtorEq, seval]
    · simp only [rowX, enb, vcb, ↓evSo_some, ↓reduceIte, reduceCtorEq, seval]
def posK (ts : List Tr) (kd : Int) (out : List Int) (t : Tr) : Nat → Nat
  | 0 => 0
  | n + 1 => if kd = 1 then n + 1 else if (ts.getD (out.getD n 0).toNat default).att ≤ t.att then n + 1 else posK ts kd out t n
theorem posK_le (ts : List Tr) (kd : Int) (out : List Int) (t : Tr) : ∀ n, posK ts kd out t n ≤ n
  | 0 => Nat.le_refl _
  | n + 1 => by
    have := posK_le ts kd out t n
    rw [posK]; split
    · omega
    · split <;> omega
def insK (ts : List Tr) (kd : Int) (out : List Int) (t : Tr) (i : Nat) : List Int := (out.take (posK ts kd out t out.length) ++ [(i : Int)]) ++ out.drop (posK ts kd out t out.length)
def kindGo (ts : List Tr) (kd : Int) : Nat → List Tr → List Int → List Int
  | _, [], out => out
  | i, t :: r, out => kindGo ts kd (i + 1) r (if t.kind = kd then insK ts kd out t i else out)
def kindT (ts : List Tr) (kd : Int) : List Int := kindGo ts kd 0 ts []
theorem insK_mem {ts : List Tr} {kd : Int} {out : List Int} {t : Tr} {i : Nat} {e : Int} (h : e ∈ insK ts kd out t i) : e ∈ out ∨ e = i := by
  simp only [insK, List.mem_append, List.mem_singleton] at h
  rcases h with (h | h) | h
  · exact .inl (List.mem_of_mem_take h)
  · exact .inr h
  · exact .inl (List.mem_of_mem_drop h)
theorem insK_len (ts : List Tr) (kd : Int) (out : List Int) (t : Tr) (i : Nat) : (insK ts kd out t i).length = out.length + 1 := by
  have := posK_le ts kd out t out.length
  simp only [insK, List.length_append, List.length_take, List.length_drop, List.length_singleton]; omega
theorem insK_get (ts : List Tr) (kd : Int) (out : List Int) (t : Tr) (k i : Nat) : (insK ts kd out t k).getD i 0 = if i < posK ts kd out t out.length then out.getD i 0 else if i = posK ts kd out t out.length then (k : Int) else out.getD (i - 1) 0 := by
  have hp := posK_le ts kd out t out.length
  unfold insK
  generalize posK ts kd out t out.length = p at *
  simp only [List.getD_eq_getElem?_getD]
  by_cases h1 : i < p
  · rw [if_pos h1, List.append_assoc, List.getElem?_append_left (by simp; omega), List.getElem?_take, if_pos h1]
  · rw [if_neg h1]
    by_cases h2 : i = p
    · subst h2
      rw [if_pos rfl, List.append_assoc, List.getElem?_append_right (by simp; omega)]
      have : i - (out.take i).length = 0 := by simp; omega
      rw [this]; simp
    · rw [if_neg h2, List.getElem?_append_right (by simp; omega), List.getElem?_drop]
      have : p + (i - (out.take p ++ [(k : Int)]).length) = i - 1 := by simp; omega
      rw [this]
structure KiI (k : Nat) (out : List Int) : Prop where
  len : out.length ≤ k
  mem : ∀ e, e ∈ out → 0 ≤ e ∧ e < k
set_option maxHeartbeats 2000000 in
theorem kindW (ts : List Tr) (kd : Int) (hl : ts.length ≤ 1000) (c : Ctx) (hP : c.P = Try.prog) (hfn : c.fn = []) (K : Kont) (hK : ∀ st, Wk c st ⟨[(4, .osl 1000)], [(1000, rowI (kindT ts kd))], [1000]⟩ → K .ret st) :
    vcC c kc28 ⟨initE 0 [.d (slT ts), .d (.int .i64 kd)], [], []⟩ K := by
  simp only [kc28, slT, vcb, ↓evSo_some, ↓reduceIte, reduceCtorEq, seval]
  refine vcC.loop (X := Nat × List Int) (fun x => ⟨[(0, .d (slT ts)), (1, .d (.int .i64 kd)), (5, .osl 1000), (6, .d (.int .i64 x.1))], [(1000, rowI x.2)], [1000]⟩)
    (fun x => x.1 ≤ ts.length ∧ KiI x.1 x.2 ∧ kindT ts kd = kindGo ts kd x.1 (ts.drop x.1) x.2) (fun x => ts.length - x.1) (0, []) ⟨Nat.zero_le _, ⟨Nat.zero_le _, by simp⟩, rfl⟩
    ((Wk.row0 (s := 5) (k := 1000) (e := 3) (sz := 1) (f' := fun _ => []) rfl rfl (by simp)).trans (Wk.of _ hfn rfl (by simp only [slT, enb, vcb, ↓evSo_some, ↓reduceIte, reduceCtorEq, seval]) (by simp only [rowI, enb, vcb, ↓evSo_some, ↓reduceIte, reduceCtorEq, seval]; exact OLe.row rfl (fun i hi => absurd hi (Nat.not_lt_zero i))))) ?_
  rintro ⟨k, out⟩ ⟨hk, hI, he⟩
  simp only at hk hI he
  simp only [slT, rowI, vcb, ↓evSo_some, ↓reduceIte, reduceCtorEq, seval]
  refine ⟨fun h1 => ?_, fun h1 => ?_⟩
  · have hlt : k < ts.length := by have := of_decide_eq_true h1; omega
    obtain ⟨t, hd, hg, htm, -⟩ := drop_at hlt
    have hkl := hI.len
    rw [hd, kindGo] at he
    have ewk : IntKind.i64.wrap ((k : Int) + 1) = ((k + 1 : Nat) : Int) := wS (by omega)
    simp only [hg, vcb, ↓evSo_some, ↓reduceIte, reduceCtorEq, seval]
    repeat' first
        | refine And.intro (fun h => ?_) (fun h => ?_)
        | refine And.intro (by first | omega | (simp only [maxLen, decide_eq_true_eq, decide_eq_false_iff_not] at *; omega)) ?_
        | (refine TR.aslO rfl rfl rfl rfl trivial (Nat.le_of_ble_eq_true rfl) ?_
           try simp only [hg, vcb, ↓evSo_some, ↓reduceIte, reduceCtorEq, seval])
        | refine And.intro trivial ?_
        | refine And.intro rfl ?_
        | fail
    · have hne : ¬ t.kind = kd := by simpa using h
      rw [if_neg hne] at he
      exact lopK.on (k + 1, out) ⟨hlt, ⟨by simp only; omega, fun e h9 => by have := hI.mem e h9; simp only; omega⟩, he⟩ (by simp only; omega) (Wk.of _ hfn rfl (by simp only [slT, ewk, enb, vcb, ↓evSo_some, ↓reduceIte, reduceCtorEq, seval]) (by simp only [rowI, enb, vcb, ↓evSo_some, ↓reduceIte, reduceCtorEq, seval]))
    · have heq : t.kind = kd := by simpa using h
      rw [if_pos heq] at he
      clear h
      have hple := posK_le ts kd out t out.length
      refine vcC.loopX (X := Nat) (Y := Unit) (fun n => ⟨[(0, .d (slT ts)), (1, .d (.int .i64 kd)), (5, .osl 1000), (6, .d (.int .i64 k)), (7, .d (.int .i64 n))], [(1000, rowI out)], [1000]⟩)
        (fun n => n ≤ out.length ∧ posK ts kd out t out.length = posK ts kd out t n) (fun n => n) out.length
        (fun _ => ⟨[(0, .d (slT ts)), (1, .d (.int .i64 kd)), (5, .d (slK .i64 out)), (6, .d (.int .i64 k)), (7, .d (.int .i64 (posK ts kd out t out.length)))], [], []⟩) (fun _ => True)
        ⟨Nat.le_refl _, rfl⟩ (Wk.of _ hfn rfl (by simp only [slT, enb, vcb, ↓evSo_some, ↓reduceIte, reduceCtorEq, seval]) (by simp only [rowI, enb, vcb, ↓evSo_some, ↓reduceIte, reduceCtorEq, seval])) ?_ ?_
      · rintro n ⟨hn, hp⟩
        have hout : ∀ (st : St), posK ts kd out t out.length = n → own? st.own 1000 = some (rowI out) → EnvLe (pubE 1000 (.sl false 1 out.length (fun i => [.int .i64 (out.getD i 0)])) st.env) [(0, .d (slT ts)), (1, .d (.int .i64 kd)), (5, .d (slK .i64 out)), (6, .d (.int .i64 k)), (7, .d (.int .i64 n))] →
            Wk c st ⟨[(0, .d (slT ts)), (1, .d (.int .i64 kd)), (5, .d (slK .i64 out)), (6, .d (.int .i64 k)), (7, .d (.int .i64 (posK ts kd out t out.length)))], [], []⟩ := fun st e h1 h2 => by
          rw [e]
          exact (Wk.pub 1000 h1).trans (Wk.of _ hfn rfl h2 trivial)
        simp only [slT, rowI, hg, vcb, ↓evSo_some, ↓reduceIte, reduceCtorEq, seval]
        refine ⟨fun h => ?_, fun h => ?_⟩
        · have h' : 0 < n ∧ kd ≠ 1 := by simp at h; omega
          obtain ⟨m, rfl⟩ : ∃ m, n = m + 1 := ⟨n - 1, by omega⟩
          have ew : IntKind.i64.wrap (((m + 1 : Nat) : Int) - 1) = (m : Int) := (wI (by omega)).trans (by omega)
          have hb := hI.mem (out.getD m 0) (by rw [List.getD_eq_getElem?_getD, List.getElem?_eq_getElem (show m < out.length by omega)]; exact List.getElem_mem _)
          rw [show posK ts kd out t (m + 1) = if kd = 1 then m + 1 else if (ts.getD (out.getD m 0).toNat default).att ≤ t.att then m + 1 else posK ts kd out t m from rfl, if_neg h'.2] at hp
          simp only [ew, Int.toNat_natCast]
          refine ⟨⟨by omega, by omega⟩, by omega, ⟨by omega, by omega⟩, ⟨by omega, by omega⟩, rfl, fun h2 => ?_, fun h2 => ?_⟩
          · rw [if_pos (of_decide_eq_true h2)] at hp
            exact ⟨(), hout _ hp rfl (by simp only [slT, slK, enb, vcb, ↓evSo_some, ↓reduceIte, reduceCtorEq, seval])⟩
          · rw [if_neg (of_decide_eq_false h2)] at hp
            exact lopX.on m ⟨by omega, hp⟩ (by omega) (Wk.of _ hfn rfl (by simp only [slT, enb, vcb, ↓evSo_some, ↓reduceIte, reduceCtorEq, seval]) (by simp only [rowI, enb, vcb, ↓evSo_some, ↓reduceIte, reduceCtorEq, seval]))
        · have hpn : posK ts kd out t n = n := by
            cases n with
            | zero => rfl
            | succ m =>
              have : kd = 1 := by simp at h; exact h
              rw [posK, if_pos this]
          exact ⟨(), hout _ (hp.trans hpn) rfl (by simp only [slT, slK, enb, vcb, ↓evSo_some, ↓reduceIte, reduceCtorEq, seval])⟩
      · rintro - -
        simp only [slT, vcb, ↓evSo_some, ↓reduceIte, reduceCtorEq, seval]
        have hget := insK_get ts kd out t k
        generalize posK ts kd out t out.length = p at *
        refine ⟨⟨by omega, by omega⟩, ⟨by omega, by simp only [maxLen]; omega⟩, ⟨by omega, by simp only [maxLen]; omega⟩, ⟨by omega, by omega⟩, ⟨by omega, by simp only [maxLen]; omega⟩, rfl, ?_⟩
        refine lopK.on (k + 1, insK ts kd out t k) ⟨hlt, ⟨by simp only [insK_len]; omega, fun e h9 => ?_⟩, he⟩ (by simp only; omega) ((Wk.sw 57 1000 _ hfn (by simp) (by simp)).trans (Wk.of _ hfn rfl (by simp only [slT, ewk, enb, vcb, ↓evSo_some, ↓reduceIte, reduceCtorEq, seval]) ?_))
        · rcases insK_mem h9 with h9 | h9
          · have := hI.mem e h9; simp only; omega
          · simp only; omega
        · simp only [rowI, enb, vcb, ↓evSo_some, ↓reduceIte, reduceCtorEq, seval]
          refine OLe.row (by rw [insK_len]; omega) fun i hi => ?_
          rw [hget i]
          by_cases e1 : i < p
          · simp only [if_pos (show i < p + 1 by omega), if_pos e1]
          · by_cases e2 : i = p
            · subst e2; simp
            · simp only [if_neg (show ¬ i < p + 1 by omega), if_neg e2, if_neg e1, show p + (i - (p + 1)) = i - 1 by omega]
  · have hkl : k = ts.length := by have := of_decide_eq_false h1; omega
    rw [hkl, List.drop_length, kindGo] at he
    repeat' first
        | refine And.intro (fun h => ?_) (fun h => ?_)
        | refine And.intro (by first | omega | (simp only [maxLen, decide_eq_true_eq, decide_eq_false_iff_not] at *; omega)) ?_
        | (refine TR.aslO rfl rfl rfl rfl trivial (Nat.le_of_ble_eq_true rfl) ?_
           try simp only [vcb, ↓evSo_some, ↓reduceIte, reduceCtorEq, seval])
        | refine And.intro trivial ?_
        | refine And.intro rfl ?_
        | fail
    refine hK _ (Wk.of _ hfn rfl (by simp only [enb, vcb, ↓evSo_some, ↓reduceIte, reduceCtorEq, seval]) (by simp only [rowI, he, enb, vcb, ↓evSo_some, ↓reduceIte, reduceCtorEq, seval]))
theorem rKind (ts : List Tr) (kd : Int) (hl : ts.length ≤ 1000) : Ctr Try.prog 28 [.d (slT ts), .d (.int .i64 kd)] [] (.osl 1000) [(1000, rowI (kindT ts kd))] [1000] := by
  refine ctr_own Try.func28 ok28 rfl cc28 cr28 Try.ntmps28 (by simp) rfl ?_
  intro c hP hfn
  refine kindW ts kd hl c hP hfn _ fun st h => RetK.mk _ h (by simp only [rs28, rsb, vcb, ↓evSo_some, ↓reduceIte, reduceCtorEq, seval]) (by simp only [rs28, rsb, vcb, ↓evSo_some, ↓reduceIte, reduceCtorEq, seval, enb, vcb, ↓evSo_some, ↓reduceIte, reduceCtorEq, seval]) (by simp only [rowI, enb, vcb, ↓evSo_some, ↓reduceIte, reduceCtorEq, seval])
theorem rKindD (ts : List Tr) (kd : Int) (hl : ts.length ≤ 1000) : Ctr Try.prog 28 [.d (slT ts), .d (.int .i64 kd)] [] (.d (slK .i64 (kindT ts kd))) [] [] := by
  refine ctr_pure Try.func28 ok28 rfl cc28 cr28 Try.ntmps28 (by simp) rfl rfl ?_
  intro c hP hfn
  refine kindW ts kd hl c hP hfn _ fun st h => RetK.mk _ (h.trans (Wk.pub 1000 rfl)) (by simp only [rs28, rsb, vcb, ↓evSo_some, ↓reduceIte, reduceCtorEq, seval]) (by simp only [rs28, rsb, vcb, ↓evSo_some, ↓reduceIte, reduceCtorEq, seval, enb, vcb, ↓evSo_some, ↓reduceIte, reduceCtorEq, seval]) trivial
end Go.Proofs.Ytgpckelpmincmaa
end
section
set_option linter.unusedSimpArgs false
set_option linter.unusedVariables false
namespace Go.Proofs.Ytgpckelpmincmaa
set_option linter.unusedSimpArgs false
set_option linter.unusedVariables false
open Go.Bx
theorem down_q {m s S : Int} (hm : 0 ≤ m) (hs : 0 ≤ s) (hS : 0 < S) (hsS : s ≤ S) (h4 : m ≤ 4000000000000000000) : downR m s S = (m * s / S, 0) := by
  obtain ⟨M, rfl⟩ : ∃ A : Nat, m = (A : Int) := ⟨m.toNat, by omega⟩
  obtain ⟨T, rfl⟩ : ∃ A : Nat, s = (A : Int) := ⟨s.toNat, by omega⟩
  obtain ⟨K, rfl⟩ : ∃ A : Nat, S = (A : Int) := ⟨S.toNat, by omega⟩
  have hle : M * T / K ≤ M := by
    have h1 : M * T ≤ M * K := Nat.mul_le_mul_left M (by omega)
    have h2 := Nat.div_le_div_right (c := K) h1
    rwa [Nat.mul_div_cancel M (by omega)] at h2
  rw [downR, ofR_nat M T K (by omega), if_neg (by omega)]
  simp only [upD, Bool.false_eq_true, if_false, Nat.add_zero]
  rw [if_neg (by omega)]
  simp
def dealQ (m S : Int) : Int → List Int → List Int
  | _, [] => []
  | n, p :: r => (m * (n + p) / S - m * n / S) :: dealQ m S (n + p) r
theorem quo_le {m s t S : Int} (hm : 0 ≤ m) (hS : 0 < S) (h : s ≤ t) : m * s / S ≤ m * t / S :=
  Int.ediv_le_ediv hS (Int.mul_le_mul_of_nonneg_left h hm)
theorem quo_nn {m s S : Int} (hm : 0 ≤ m) (hS : 0 < S) (h : 0 ≤ s) : 0 ≤ m * s / S :=
  Int.ediv_nonneg (Int.mul_nonneg hm h) (by omega)
theorem quo_top {m s S : Int} (hm : 0 ≤ m) (hS : 0 < S) (h : s ≤ S) : m * s / S ≤ m := by
  have := quo_le hm hS h
  rwa [Int.mul_ediv_cancel m (by omega)] at this
theorem deal2_eq {m S : Int} (hm : 0 ≤ m) (hS : 0 < S) (h4 : m ≤ 4000000000000000000) : ∀ (l : List Int) (n : Int), 0 ≤ n → (∀ x, x ∈ l → 0 ≤ x) → n + l.sum ≤ S →
    deal2 m S (m * n / S) (psums n l) = dealQ m S n l
  | [], _, _, _, _ => rfl
  | p :: r, n, hn, hx, hs => by
    have hp := hx p (by simp)
    have hr := sum_nonneg (l := r) (fun x h => hx x (by simp [h]))
    rw [List.sum_cons] at hs
    have h1 := quo_nn hm hS hn
    have h2 := quo_le hm hS (show n ≤ n + p by omega)
    have h3 := quo_top hm hS (show n + p ≤ S by omega)
    rw [psums, deal2, dealQ, down_q hm (by omega) hS (by omega) h4, deal2_eq hm hS h4 r (n + p) (by omega) (fun x h => hx x (by simp [h])) (by omega)]
    simp only
    rw [wI (by omega)]
structure SOk (m : Int) (l : List Int) : Prop where
  m0 : 0 ≤ m
  m4 : m ≤ 4000000000000000000
  n2 : l.length ≤ 2000
  nn : ∀ x, x ∈ l → 0 ≤ x
  S0 : 0 < l.sum
  S4 : l.sum ≤ 4000000000000000000
theorem split_ok {m : Int} {l : List Int} (h : SOk m l) : splitR m l = (dealQ m l.sum 0 l, 0) := by
  have := h.m0; have := h.m4; have := h.n2; have := h.S0; have := h.S4
  have e := deal2_eq h.m0 h.S0 h.m4 l 0 (by omega) h.nn (by omega)
  rw [Int.mul_zero, Int.zero_ediv] at e
  rw [splitR, if_neg (by omega), if_neg (any_nonneg h.nn), if_neg (by omega), if_neg (by omega), e]
theorem split_inv {m : Int} {l : List Int} (h : (splitR m l).2 = 0) : SOk m l := by
  unfold splitR at h
  split at h
  · cases h
  split at h
  · cases h
  rename_i h1 h2
  have hnn : ∀ x, x ∈ l → 0 ≤ x := by
    intro x hx
    by_cases h3 : x < 0
    · exact absurd (any_neg hx h3) h2
    · omega
  have := sum_nonneg hnn
  split at h
  · cases h
  split at h
  · cases h
  exact ⟨by omega, by omega, by omega, hnn, by omega, by omega⟩
theorem split_bad {m : Int} {l : List Int} (h : (splitR m l).2 ≠ 0) : (splitR m l).1 = [] := by
  unfold splitR at h ⊢
  split
  · rfl
  split
  · rfl
  split
  · rfl
  split
  · rfl
  · rename_i h1 h2 h3 h4; simp [h1, h2, h3, h4] at h
theorem dealQ_len (m S : Int) : ∀ (l : List Int) (n : Int), (dealQ m S n l).length = l.length
  | [], _ => rfl
  | p :: r, n => by simp [dealQ, dealQ_len m S r]
theorem dealQ_take (m S : Int) : ∀ (k : Nat) (l : List Int) (n : Int), ((dealQ m S n l).take k).sum = m * (n + (l.take k).sum) / S - m * n / S
  | 0, l, n => by simp
  | k + 1, [], n => by simp [dealQ]
  | k + 1, p :: r, n => by simp [dealQ, dealQ_take m S k r, Int.add_assoc]; omega
theorem take_sum {l : List Int} {k : Nat} (h : k < l.length) : (l.take (k + 1)).sum = (l.take k).sum + l.getD k 0 := by
  obtain ⟨x, hd, hg, -, hat⟩ := drop_at h
  rw [List.take_add_one, hat, hg]; simp
theorem dealQ_at {m S : Int} {l : List Int} {k : Nat} (h : k < l.length) : (dealQ m S 0 l).getD k 0 = m * (l.take (k + 1)).sum / S - m * (l.take k).sum / S := by
  have h1 := take_sum (l := dealQ m S 0 l) (k := k) (by rw [dealQ_len]; exact h)
  rw [dealQ_take, dealQ_take] at h1
  simp only [Int.zero_add] at h1
  omega
end Go.Proofs.Ytgpckelpmincmaa
end
section
set_option linter.unusedSimpArgs false
set_option linter.unusedVariables false
namespace Go.Proofs.Ytgpckelpmincmaa
set_option linter.unusedSimpArgs false
set_option linter.unusedVariables false
open Go.Bx
set_option maxRecDepth 10000
structure BOk (t : Tr) (l : List Ls) (b : List Int) : Prop where
  len : b.length = l.length
  nn : ∀ i, 0 ≤ b.getD i 0
  take : ∀ i, i < l.length → takesT t (l.getD i default) = false → b.getD i 0 = 0
theorem deal_ok (t : Tr) : ∀ (l : List Ls) (left : Int), 0 ≤ left → left ≤ 200000000000000000 → (∀ x, x ∈ l → lossX x = true) → BOk t l (dealT t left l) ∧ (dealT t left l).sum ≤ left
  | [], left, h0, _, _ => ⟨⟨rfl, fun i => by simp [dealT], fun i hi => by simp at hi⟩, by simpa [dealT] using h0⟩
  | x :: r, left, h0, h1, hx => by
    have hxx := lossX_iff.1 (hx x (by simp))
    have hp := part_bounds t (amt := x.amt) (by omega) (by omega)
    rw [dealT]
    by_cases h : takesT t x = true
    · rw [if_pos h, wI (by omega)]
      obtain ⟨g1, g2⟩ := deal_ok t r (left - min (partT t x.amt) left) (by omega) (by omega) (fun y hy => hx y (by simp [hy]))
      refine ⟨⟨by simp [g1.len], fun i => ?_, fun i hi ht => ?_⟩, by simp only [List.sum_cons]; omega⟩
      · cases i with
        | zero => simp only [List.getD_cons_zero]; omega
        | succ i => simpa using g1.nn i
      · cases i with
        | zero => simp only [List.getD_cons_zero] at ht; rw [h] at ht; cases ht
        | succ i => simpa using g1.take i (by simpa using hi) (by simpa using ht)
    · rw [if_neg h]
      obtain ⟨g1, g2⟩ := deal_ok t r left h0 h1 (fun y hy => hx y (by simp [hy]))
      refine ⟨⟨by simp [g1.len], fun i => ?_, fun i hi ht => ?_⟩, by simp only [List.sum_cons]; omega⟩
      · cases i with
        | zero => simp
        | succ i => simpa using g1.nn i
      · cases i with
        | zero => simp
        | succ i => simpa using g1.take i (by simpa using hi) (by simpa using ht)
theorem split_ok2 {m : Int} (l : List Int) (h0 : 0 ≤ m) : (∀ d, d ∈ (splitR m l).1 → 0 ≤ d) ∧ (splitR m l).1.sum ≤ m := by
  by_cases h : (splitR m l).2 = 0
  · have ok := split_inv h
    have e := split_ok ok
    have hS : 0 < l.sum := ok.S0
    rw [e]
    refine ⟨fun d hd => ?_, ?_⟩
    · obtain ⟨k, hk⟩ := List.mem_iff_getElem?.1 hd
      have hkl : k < l.length := by have := (List.getElem?_eq_some_iff.1 hk).1; simpa [dealQ_len] using this
      have h2 := dealQ_at (m := m) (S := l.sum) hkl
      have h3 := take_sum hkl
      have hm : l.getD k 0 ∈ l := by rw [List.getD_eq_getElem?_getD, List.getElem?_eq_getElem hkl]; exact List.getElem_mem hkl
      have h4 := ok.nn _ hm
      have h5 := quo_le (s := (l.take k).sum) (t := (l.take (k + 1)).sum) h0 hS (by omega)
      rw [List.getD_eq_getElem?_getD, hk, Option.getD_some] at h2
      omega
    · have h2 := dealQ_take m l.sum l.length l 0
      rw [List.take_of_length_le (by rw [dealQ_len]; exact Nat.le_refl _), List.take_length] at h2
      rw [h2]
      have : m * (0 + l.sum) / l.sum = m := by rw [Int.zero_add]; exact Int.mul_ediv_cancel _ (by omega)
      simp only [this]; simp
  · rw [split_bad h]; simpa using h0
theorem sum_set {d : Int} (h0 : 0 ≤ d) : ∀ (out : List Int) (i : Nat), 0 ≤ out.getD i 0 → (out.set i d).sum ≤ out.sum + d
  | [], i, _ => by simpa using h0
  | a :: r, 0, h => by simp only [List.getD_cons_zero] at h; simp only [List.set_cons_zero, List.sum_cons]; omega
  | a :: r, i + 1, h => by
    have := sum_set h0 r i (by simpa using h)
    simp only [List.set_cons_succ, List.sum_cons]; omega
theorem putAll_ok (P : Nat → Prop) : ∀ (g ds out : List Int), (∀ d, d ∈ ds → 0 ≤ d) → (∀ i, i ∈ g → P i.toNat) → (∀ j, 0 ≤ out.getD j 0 ∧ (¬ P j → out.getD j 0 = 0)) →
    (∀ j, 0 ≤ (putAll out g ds).getD j 0 ∧ (¬ P j → (putAll out g ds).getD j 0 = 0)) ∧ (putAll out g ds).sum ≤ out.sum + ds.sum
  | [], ds, out, hd, _, ho => by
    refine ⟨by simpa [putAll] using ho, ?_⟩
    have := sum_nonneg hd
    simp only [putAll]; omega
  | i :: g, [], out, _, _, ho => ⟨by simpa [putAll] using ho, by simp [putAll]⟩
  | i :: g, d :: ds, out, hd, hg, ho => by
    rw [putAll]
    have h0 := hd d (by simp)
    have hs := sum_set h0 out i.toNat (ho i.toNat).1
    obtain ⟨g1, g2⟩ := putAll_ok P g ds (out.set i.toNat d) (fun x hx => hd x (by simp [hx])) (fun x hx => hg x (by simp [hx])) (fun j => by
      by_cases e : i.toNat = j
      · subst e
        have hP := hg i (by simp)
        refine ⟨?_, fun h => absurd hP h⟩
        by_cases hl : i.toNat < out.length
        · rw [List.getD_eq_getElem?_getD, List.getElem?_set_self hl]; exact h0
        · rw [List.getD_eq_getElem?_getD, List.getElem?_eq_none (by simp; omega)]; simp
      · rw [List.getD_eq_getElem?_getD, List.getElem?_set_ne e, ← List.getD_eq_getElem?_getD]; exact ho j)
    refine ⟨g1, ?_⟩
    simp only [List.sum_cons]; omega
theorem bearsF_ok (t : Tr) (l : List Ls) (P : Nat → Prop) (hl : l.length ≤ 2000) (hx : ∀ x, x ∈ l → lossX x = true) : ∀ (G : List (List Int)) (left : Int) (out : List Int), 0 ≤ left →
    (∀ g, g ∈ G → g.length ≤ l.length ∧ ∀ i, i ∈ g → 0 ≤ i ∧ i < (l.length : Int) ∧ P i.toNat) → (∀ j, 0 ≤ out.getD j 0 ∧ (¬ P j → out.getD j 0 = 0)) →
    (∀ j, 0 ≤ (bearsF t l left G out).getD j 0 ∧ (¬ P j → (bearsF t l left G out).getD j 0 = 0)) ∧ (bearsF t l left G out).sum ≤ out.sum + left ∧ (bearsF t l left G out).length = out.length
  | [], left, out, h0, _, ho => ⟨by simpa [bearsF] using ho, by simp only [bearsF]; omega, rfl⟩
  | g :: G, left, out, h0, hG, ho => by
    have hg := hG g (by simp)
    have ha := amts_bounds hx (g := g) (fun i hi => ⟨(hg.2 i hi).1, (hg.2 i hi).2.1⟩)
    have hs : (amtsT l g).sum ≤ 1000000000000000 * 2000 := by
      have : (g.length : Int) ≤ 2000 := by have := hg.1; omega
      have h2 : (1000000000000000 : Int) * g.length ≤ 1000000000000000 * 2000 := by omega
      omega
    have hp := part_nn t (amt := (amtsT l g).sum) ha.2.1 (by omega)
    obtain ⟨d1, d2⟩ := split_ok2 (m := min left (partT t (amtsT l g).sum)) (amtsT l g) (by omega)
    obtain ⟨p1, p2⟩ := putAll_ok P g _ out d1 (fun i hi => (hg.2 i hi).2.2) ho
    obtain ⟨f1, f2, f3⟩ := bearsF_ok t l P hl hx G (left - min left (partT t (amtsT l g).sum)) _ (by omega) (fun g' hg' => hG g' (by simp [hg'])) p1
    rw [bearsF]
    exact ⟨f1, by omega, by rw [f3, putAll_len]⟩
theorem evRun_takes (t : Tr) (all : List Ls) : ∀ (l : List Ls) (k : Nat) (s : EvS), all.drop k = l → (∀ g, g ∈ s.G → ∀ i, i ∈ g → takesT t (all.getD i.toNat default) = true) → ∀ g, g ∈ (evRun t k l s).G → ∀ i, i ∈ g → takesT t (all.getD i.toNat default) = true
  | [], _, s, _, hs => by simpa [evRun] using hs
  | x :: r, k, s, hd, hs => by
    rw [evRun]
    have hk : k < all.length := by
      by_cases h : k < all.length
      · exact h
      · rw [List.drop_eq_nil_of_le (by omega)] at hd; cases hd
    obtain ⟨x', hd', hg, -, -⟩ := drop_at hk
    rw [hd] at hd'
    cases hd'
    refine evRun_takes t all _ (k + 1) _ rfl ?_
    unfold evStep
    split
    · rename_i ht
      have hkx : takesT t (all.getD ((k : Int)).toNat default) = true := by rw [Int.toNat_natCast, hg]; exact ht
      split
      · intro g hg' i hi
        rcases List.mem_or_eq_of_mem_set hg' with h1 | h1
        · exact hs g h1 i hi
        · subst h1
          rcases List.mem_append.1 hi with h2 | h2
          · by_cases hl : (s.kn x.ev - 1).toNat < s.G.length
            · rw [List.getD_eq_getElem?_getD, List.getElem?_eq_getElem hl] at h2
              exact hs _ (List.getElem_mem hl) i h2
            · rw [List.getD_eq_getElem?_getD, List.getElem?_eq_none (by omega)] at h2; simp at h2
          · simp at h2; subst h2; exact hkx
      · intro g hg' i hi
        rcases List.mem_append.1 hg' with h1 | h1
        · exact hs g h1 i hi
        · simp at h1; subst h1; simp at hi; subst hi; exact hkx
    · exact hs
theorem bears_ok (t : Tr) (l : List Ls) (ht : rightT t = true) (hl : l.length ≤ 2000) (hx : ∀ x, x ∈ l → lossX x = true) : BOk t l (bearsA t l) ∧ (t.kind ≠ 1 → (bearsA t l).sum ≤ roomT t) := by
  have hroom := roomT_eq t
  have hany : l.any (fun x => !(lossX x)) = false := List.any_eq_false.2 fun x h => by simp [hx x h]
  unfold bearsA
  by_cases h2 : t.kind = 2
  · rw [if_pos h2]
    have e : bearsT t l = (dealT t (roomT t) l, 0) := by
      rw [bearsT, if_neg (by rw [ht, hany, h2]; simp), if_neg (by omega)]
    rw [e]
    obtain ⟨g1, g2⟩ := deal_ok t l (roomT t) (by omega) (by omega) hx
    exact ⟨g1, fun _ => g2⟩
  · rw [if_neg h2]
    by_cases h3 : t.kind = 3
    · rw [if_pos h3]
      have e : bearsE t l = (bearsF t l (roomT t) (eventsT t l) (List.replicate l.length 0), 0) := by
        rw [bearsE, if_neg (by rw [ht, hany, h3]; simp), if_neg (by omega)]
      rw [e]
      obtain ⟨e1, e2, e3⟩ := events_ok t l
      have e4 := evRun_takes t l l 0 ⟨[], fun _ => 0⟩ rfl (by simp)
      have hz : ∀ (n j : Nat), (List.replicate n (0 : Int)).getD j 0 = 0 := fun n j => by
        rw [List.getD_eq_getElem?_getD, List.getElem?_replicate]; split <;> rfl
      obtain ⟨f1, f2, f3⟩ := bearsF_ok t l (fun j => takesT t (l.getD j default) = true) hl hx (eventsT t l) (roomT t) (List.replicate l.length 0) (by omega)
        (fun g hg => ⟨(e2 g hg).2, fun i hi => ⟨(e3 g hg i hi).1, (e3 g hg i hi).2, e4 g hg i hi⟩⟩) (fun j => by rw [hz]; simp)
      refine ⟨⟨by rw [f3]; simp, fun i => (f1 i).1, fun i hi hh => (f1 i).2 (by rw [hh]; simp)⟩, fun _ => ?_⟩
      have : (List.replicate l.length (0 : Int)).sum = 0 := by simp
      simp only; omega
    · rw [if_neg h3]
      refine ⟨⟨by simp, fun i => ?_, fun i hi hh => ?_⟩, fun h => absurd ?_ h⟩
      · rw [List.getD_eq_getElem?_getD, List.getElem?_map]
        cases h : l[i]? with
        | none => simp
        | some x =>
          simp only [Option.map_some, Option.getD_some, bearsQ_eq]
          split
          · rename_i hh; have := bears_m hh.1 hh.2; simp only; omega
          · simp
      · rw [List.getD_eq_getElem?_getD, List.getElem?_map, List.getElem?_eq_getElem hi]
        rw [List.getD_eq_getElem?_getD, List.getElem?_eq_getElem hi, Option.getD_some] at hh
        simp only [Option.map_some, Option.getD_some, bearsQ_eq, hh]; simp
      · unfold rightT at ht
        by_cases h1 : t.kind = 1
        · exact h1
        · rw [if_neg h1, if_neg (by omega)] at ht; simp at ht
end Go.Proofs.Ytgpckelpmincmaa
end
section
set_option linter.unusedSimpArgs false
set_option linter.unusedVariables false
namespace Go.Proofs.Ytgpckelpmincmaa
set_option linter.unusedSimpArgs false
set_option linter.unusedVariables false
section
variable {X : Type} (d : X) (less : X → X → Bool)
def swp (l : List X) (i j : Nat) : List X := (l.set i (l.getD j d)).set j (l.getD i d)
theorem swp_len (l : List X) (i j : Nat) : (swp d l i j).length = l.length := by simp [swp]
theorem swp_get {l : List X} {i j : Nat} (hi : i < l.length) (hj : j < l.length) (m : Nat) : (swp d l i j).getD m d = if m = j then l.getD i d else if m = i then l.getD j d else l.getD m d := by
  simp only [swp, List.getD_eq_getElem?_getD, List.getElem?_set, List.length_set]
  by_cases h1 : j = m
  · subst h1; simp [hj]
  · have h1' : ¬ m = j := fun e => h1 e.symm
    rw [if_neg h1, if_neg h1']
    by_cases h2 : i = m
    · subst h2; simp [hi]
    · have h2' : ¬ m = i := fun e => h2 e.symm
      rw [if_neg h2, if_neg h2']
theorem swp_perm {l : List X} {i j : Nat} (hi : i < l.length) (hj : j < l.length) : (swp d l i j).Perm l := by
  have := List.set_set_perm hi hj
  simpa [swp, List.getD_eq_getElem?_getD, List.getElem?_eq_getElem hi, List.getElem?_eq_getElem hj] using this
def upL (j : Nat) (l : List X) : List X :=
  if _h : j = 0 then l else if less (l.getD j d) (l.getD ((j - 1) / 2) d) then upL ((j - 1) / 2) (swp d l ((j - 1) / 2) j) else l
termination_by j
decreasing_by omega
def kidL (i n : Nat) (l : List X) : Nat := if 2 * i + 2 < n ∧ less (l.getD (2 * i + 2) d) (l.getD (2 * i + 1) d) = true then 2 * i + 2 else 2 * i + 1
theorem kid_gt (i n : Nat) (l : List X) : i < kidL d less i n l := by unfold kidL; split <;> omega
def downL (i n : Nat) (l : List X) : List X :=
  if h : 2 * i + 1 < n then if less (l.getD (kidL d less i n l) d) (l.getD i d) then downL (kidL d less i n l) n (swp d l i (kidL d less i n l)) else l else l
termination_by n - i
decreasing_by
  have := kid_gt d less i n l
  omega
def pushL (l : List X) (x : X) : List X := upL d less l.length (l ++ [x])
def popL (l : List X) : List X := downL d less 0 (l.length - 1) (swp d l 0 (l.length - 1))
theorem upL_len (j : Nat) (l : List X) : (upL d less j l).length = l.length := by
  induction j using Nat.strongRecOn generalizing l with
  | _ j ih =>
    rw [upL]
    split
    · rfl
    · split
      · rw [ih _ (by omega), swp_len]
      · rfl
theorem downL_len (i n : Nat) (l : List X) : (downL d less i n l).length = l.length := by
  generalize hm : n - i = m
  induction m using Nat.strongRecOn generalizing i l with
  | _ m ih =>
    rw [downL]
    split
    · split
      · have := kid_gt d less i n l
        rw [ih _ (by omega) _ _ rfl, swp_len]
      · rfl
    · rfl
theorem upL_perm (j : Nat) {l : List X} (hj : j < l.length) : (upL d less j l).Perm l := by
  induction j using Nat.strongRecOn generalizing l with
  | _ j ih =>
    rw [upL]
    split
    · exact List.Perm.refl _
    · split
      · exact (ih _ (by omega) (by rw [swp_len]; omega)).trans (swp_perm d (by omega) hj)
      · exact List.Perm.refl _
theorem kid_lt {i n : Nat} {l : List X} (h : 2 * i + 1 < n) : kidL d less i n l < n := by unfold kidL; split <;> omega
theorem downL_perm (i n : Nat) {l : List X} (hn : n ≤ l.length) : (downL d less i n l).Perm l := by
  generalize hm : n - i = m
  induction m using Nat.strongRecOn generalizing i l with
  | _ m ih =>
    rw [downL]
    split
    · rename_i h
      split
      · have h1 := kid_gt d less i n l
        have h2 := kid_lt d less (l := l) h
        exact (ih _ (by omega) _ (by rw [swp_len]; exact hn) rfl).trans (swp_perm d (by omega) (by omega))
      · exact List.Perm.refl _
    · exact List.Perm.refl _
theorem downL_above (i n : Nat) {l : List X} (hn : n ≤ l.length) (m : Nat) (hm : n ≤ m) : (downL d less i n l).getD m d = l.getD m d := by
  generalize hk : n - i = k
  induction k using Nat.strongRecOn generalizing i l with
  | _ k ih =>
    rw [downL]
    split
    · rename_i h
      split
      · have h1 := kid_gt d less i n l
        have h2 := kid_lt d less (l := l) h
        rw [ih _ (by omega) _ (by rw [swp_len]; exact hn) rfl, swp_get d (by omega) (by omega), if_neg (by omega), if_neg (by omega)]
      · rfl
    · rfl
def Heap (n : Nat) (l : List X) : Prop := ∀ i, 0 < i → i < n → less (l.getD i d) (l.getD ((i - 1) / 2) d) = false
variable (htr : ∀ a b c, less b a = false → less c b = false → less c a = false) (has : ∀ a b, less a b = true → less b a = false)
include htr has
theorem up_heap (j n : Nat) {l : List X} (hn : n = l.length) (hj : j < n) (h1 : ∀ i, 0 < i → i < n → i ≠ j → less (l.getD i d) (l.getD ((i - 1) / 2) d) = false)
    (h2 : ∀ i, 0 < i → i < n → (i - 1) / 2 = j → 0 < j → less (l.getD i d) (l.getD ((j - 1) / 2) d) = false) : Heap d less n (upL d less j l) := by
  induction j using Nat.strongRecOn generalizing l with
  | _ j ih =>
    rw [upL]
    split
    · rename_i h0
      subst h0
      exact fun i hi hin => h1 i hi hin (by omega)
    · rename_i h0
      split
      · rename_i hl
        have hp : (j - 1) / 2 < l.length := by omega
        have hg := fun m => swp_get d hp (hn ▸ hj) m
        generalize hpe : (j - 1) / 2 = p at *
        have hpj : p < j := by omega
        refine ih p hpj (by rw [swp_len]; exact hn) (by omega) (fun i hi hin hne => ?_) (fun i hi hin hpi h0p => ?_)
        · rw [hg i, hg ((i - 1) / 2)]
          by_cases e1 : i = j
          · subst e1
            rw [if_pos rfl, hpe, if_neg (by omega), if_pos rfl]
            exact has _ _ hl
          · rw [if_neg e1, if_neg hne]
            by_cases e2 : (i - 1) / 2 = j
            · rw [if_pos e2]
              exact h2 i hi hin e2 (by omega)
            · rw [if_neg e2]
              by_cases e3 : (i - 1) / 2 = p
              · rw [if_pos e3]
                have := h1 i hi hin e1
                rw [e3] at this
                exact htr _ _ _ (has _ _ hl) this
              · rw [if_neg e3]
                exact h1 i hi hin e1
        · rw [hg i, hg ((p - 1) / 2)]
          rw [if_neg (show ¬ (p - 1) / 2 = j by omega), if_neg (show ¬ (p - 1) / 2 = p by omega)]
          have hpp := h1 p h0p (by omega) (by omega)
          by_cases e1 : i = j
          · rw [if_pos e1]; exact hpp
          · rw [if_neg e1, if_neg (by omega)]
            have := h1 i hi hin e1
            rw [hpi] at this
            exact htr _ _ _ hpp this
      · rename_i hl
        intro i hi hin
        by_cases e : i = j
        · subst e; simpa using hl
        · exact h1 i hi hin e
theorem down_heap (i0 n : Nat) {l : List X} (hn : n ≤ l.length) (h1 : ∀ i, 0 < i → i < n → (i - 1) / 2 ≠ i0 → less (l.getD i d) (l.getD ((i - 1) / 2) d) = false)
    (h2 : ∀ i, 0 < i → i < n → (i - 1) / 2 = i0 → 0 < i0 → less (l.getD i d) (l.getD ((i0 - 1) / 2) d) = false) : Heap d less n (downL d less i0 n l) := by
  generalize hk : n - i0 = k
  induction k using Nat.strongRecOn generalizing i0 l with
  | _ k ih =>
    rw [downL]
    split
    · rename_i h
      have hkg := kid_gt d less i0 n l
      have hkl := kid_lt d less (l := l) h
      have hmin : ∀ i, 0 < i → i < n → (i - 1) / 2 = i0 → i ≠ kidL d less i0 n l → less (l.getD i d) (l.getD (kidL d less i0 n l) d) = false := by
        intro i hi hin hp hne
        unfold kidL at hne ⊢
        split at hne
        · rename_i hc
          rw [if_pos hc]
          have : i = 2 * i0 + 1 := by omega
          subst this
          exact has _ _ hc.2
        · rename_i hc
          rw [if_neg hc]
          have : i = 2 * i0 + 2 := by omega
          subst this
          have : ¬ less (l.getD (2 * i0 + 2) d) (l.getD (2 * i0 + 1) d) = true := fun e => hc ⟨hin, e⟩
          simpa using this
      have hpk : (kidL d less i0 n l - 1) / 2 = i0 := by unfold kidL; split <;> omega
      generalize kidL d less i0 n l = j at *
      split
      · rename_i hl
        have hg := fun m => swp_get d (l := l) (i := i0) (j := j) (by omega) (by omega) m
        refine ih (n - j) (by omega) j (by rw [swp_len]; exact hn) (fun i hi hin hne => ?_) (fun i hi hin hpi h0j => ?_) rfl
        · rw [hg i, hg ((i - 1) / 2), if_neg (show ¬ (i - 1) / 2 = j from hne)]
          by_cases e1 : i = j
          · rw [if_pos e1, if_pos (by rw [e1]; exact hpk)]
            exact has _ _ hl
          · rw [if_neg e1]
            by_cases e2 : (i - 1) / 2 = i0
            · rw [if_neg (by omega), if_pos e2]
              exact hmin i hi hin e2 e1
            · rw [if_neg e2]
              by_cases e3 : i = i0
              · rw [if_pos e3, e3]
                exact h2 j (by omega) hkl hpk (by omega)
              · rw [if_neg e3]
                exact h1 i hi hin e2
        · rw [hpk, hg i, hg i0, if_neg (by omega), if_neg (by omega), if_neg (by omega), if_pos rfl]
          have := h1 i hi hin (by omega)
          rw [hpi] at this
          exact this
      · rename_i hl
        have hl : less (l.getD j d) (l.getD i0 d) = false := by simpa using hl
        intro i hi hin
        by_cases e : (i - 1) / 2 = i0
        · by_cases e1 : i = j
          · rw [e1, hpk]; exact hl
          · rw [e]
            exact htr _ _ _ hl (hmin i hi hin e e1)
        · exact h1 i hi hin e
    · rename_i h
      intro i hi hin
      exact h1 i hi hin (by omega)
omit has in
theorem heap_min {n : Nat} {l : List X} (h : Heap d less n l) (hrf : ∀ a, less a a = false) : ∀ i, i < n → less (l.getD i d) (l.getD 0 d) = false := by
  intro i
  induction i using Nat.strongRecOn with
  | _ i ih =>
    intro hi
    by_cases e : i = 0
    · subst e; exact hrf _
    · exact htr _ _ _ (ih ((i - 1) / 2) (by omega) (by omega)) (h i (by omega) hi)
theorem push_heap {l : List X} (x : X) (h : Heap d less l.length l) : Heap d less (pushL d less l x).length (pushL d less l x) := by
  unfold pushL
  rw [upL_len]
  have hget : ∀ i, i < l.length → (l ++ [x]).getD i d = l.getD i d := fun i hi => by simp [List.getD_eq_getElem?_getD, List.getElem?_append_left hi]
  refine up_heap d less htr has l.length _ rfl (by simp) (fun i hi hin hne => ?_) (fun i hi hin hp h0 => ?_)
  · simp at hin
    rw [hget i (by omega), hget _ (by omega)]
    exact h i hi (by omega)
  · simp at hin; omega
omit htr has in
theorem push_perm (l : List X) (x : X) : (pushL d less l x).Perm (l ++ [x]) := upL_perm d less _ (by simp)
theorem pop_ok {l : List X} (h : Heap d less l.length l) (h0 : 0 < l.length) : (popL d less l).length = l.length ∧ (popL d less l).getD (l.length - 1) d = l.getD 0 d ∧ Heap d less (l.length - 1) ((popL d less l).take (l.length - 1)) ∧ ((popL d less l).getD (l.length - 1) d :: (popL d less l).take (l.length - 1)).Perm l := by
  have hlen : (popL d less l).length = l.length := by rw [popL, downL_len, swp_len]
  have hg := fun m => swp_get d (l := l) (i := 0) (j := l.length - 1) h0 (by omega) m
  have hx : (popL d less l).getD (l.length - 1) d = l.getD 0 d := by
    rw [popL, downL_above d less 0 (l.length - 1) (by rw [swp_len]; omega) _ (Nat.le_refl _), hg, if_pos rfl]
  have hheap : Heap d less (l.length - 1) (popL d less l) := by
    refine down_heap d less htr has 0 _ (by rw [swp_len]; omega) (fun i hi hin hp => ?_) (fun i hi hin hp h00 => by omega)
    rw [hg i, hg ((i - 1) / 2), if_neg (by omega), if_neg (by omega), if_neg (by omega), if_neg hp]
    exact h i hi (by omega)
  refine ⟨hlen, hx, fun i hi hin => ?_, ?_⟩
  · have hget : ∀ i, i < l.length - 1 → ((popL d less l).take (l.length - 1)).getD i d = (popL d less l).getD i d := fun i hi => by
      simp [List.getD_eq_getElem?_getD, List.getElem?_take, hi]
    rw [hget i hin, hget _ (by omega)]
    exact hheap i hi hin
  · have hp : (popL d less l).Perm l := by
      unfold popL
      exact (downL_perm d less _ _ (by rw [swp_len]; omega)).trans (swp_perm d h0 (by omega))
    refine List.Perm.trans ?_ hp
    generalize popL d less l = r at *
    have e : r = r.take (l.length - 1) ++ [r.getD (l.length - 1) d] := by
      have h5 : r.drop (l.length - 1) = [r.getD (l.length - 1) d] := by
        rw [List.drop_eq_getElem_cons (by omega), List.drop_eq_nil_of_le (by omega)]
        simp [List.getD_eq_getElem?_getD, List.getElem?_eq_getElem (show l.length - 1 < r.length by omega)]
      rw [← h5, List.take_append_drop]
    conv => rhs; rw [e]
    exact (List.perm_append_comm (l₁ := [_]))
def drainL : Nat → List X → List X
  | 0, _ => []
  | k + 1, l => (popL d less l).getD (l.length - 1) d :: drainL k ((popL d less l).take (l.length - 1))
theorem drain_ok (hrf : ∀ a, less a a = false) : ∀ (k : Nat) {l : List X}, l.length = k → Heap d less l.length l → (drainL d less k l).Pairwise (fun a b => less b a = false) ∧ (drainL d less k l).Perm l
  | 0, l, h, _ => by
    have : l = [] := List.eq_nil_of_length_eq_zero h
    subst this
    exact ⟨List.Pairwise.nil, List.Perm.refl _⟩
  | k + 1, l, hk, h => by
    obtain ⟨h1, h2, h3, h4⟩ := pop_ok d less htr has h (by omega)
    have hl : ((popL d less l).take (l.length - 1)).length = k := by rw [List.length_take, h1]; omega
    obtain ⟨g1, g2⟩ := drain_ok hrf k hl (by rw [hl]; have : k = l.length - 1 := by omega
                                             rw [this]; exact h3)
    refine ⟨?_, ?_⟩
    · simp only [drainL]
      refine List.Pairwise.cons (fun b hb => ?_) g1
      have hb1 := g2.mem_iff.1 hb
      have hb2 : b ∈ l := h4.mem_iff.1 (List.mem_cons_of_mem _ hb1)
      obtain ⟨i, hi⟩ := List.mem_iff_getElem?.1 hb2
      have hil : i < l.length := (List.getElem?_eq_some_iff.1 hi).1
      have := heap_min d less htr h hrf i hil
      rw [h2]
      rwa [List.getD_eq_getElem?_getD, hi] at this
    · simp only [drainL]
      exact (List.Perm.cons _ g2).trans h4
theorem pushes_ok (xs : List X) : ∀ (l : List X), Heap d less l.length l → Heap d less (xs.foldl (pushL d less) l).length (xs.foldl (pushL d less) l) ∧ (xs.foldl (pushL d less) l).Perm (l ++ xs) := by
  induction xs with
  | nil => intro l h; exact ⟨h, by simp⟩
  | cons x xs ih =>
    intro l h
    obtain ⟨g1, g2⟩ := ih (pushL d less l x) (push_heap d less htr has x h)
    refine ⟨g1, g2.trans ?_⟩
    have := (push_perm d less l x).append_right xs
    simpa using this
theorem hsort_ok (hrf : ∀ a, less a a = false) (xs : List X) : (drainL d less xs.length (xs.foldl (pushL d less) [])).Pairwise (fun a b => less b a = false) ∧ (drainL d less xs.length (xs.foldl (pushL d less) [])).Perm xs := by
  obtain ⟨g1, g2⟩ := pushes_ok d less htr has xs [] (fun i hi hin => by simp at hin)
  have hl : (xs.foldl (pushL d less) []).length = xs.length := by simpa using g2.length_eq
  obtain ⟨h1, h2⟩ := drain_ok d less htr has hrf xs.length hl g1
  exact ⟨h1, h2.trans (by simpa using g2)⟩
end
end Go.Proofs.Ytgpckelpmincmaa
end
