import Derived.Test.YtkifajabiggfmaaXD10
section
set_option linter.unusedSimpArgs false
set_option linter.unusedVariables false
namespace Go.Proofs.Ytkifajabiggfmaa
set_option linter.unusedSimpArgs false
set_option linter.unusedVariables false
open Go.Bx
set_option maxRecDepth 10000
set_option maxHeartbeats 4000000 in
theorem rBears (t : Tr) (l : List Ls) (hl : l.length ≤ 1000000) (hp : ∀ x, x ∈ l → x.per ≤ 9223372036854775807) : Ctr Try.prog 18 [vT t, .d (slX l)] [] (.tup [.d (slK .i64 (bearsE t l).1), .d (.int .i64 (bearsE t l).2)]) [] [] := by
  have cr := s27 t
  have ce := rEvents t l hl hp
  have cm := s21 t
  simp only [vT, cT] at cr cm
  simp only [vT, cT, slX] at ce
  refine ctr_pure Try.func18 ok18 rfl cc18 cr18 Try.ntmps18 (by simp) rfl rfl ?_; intro c hP hfn; simp only [kc18, vT, cT, slX, vcb, ↓evSo_some, ↓reduceIte, reduceCtorEq, seval]
  repeat' first
      | (first
          | refine TR.p hP (by first | exact cr) (by repeat' first | exact trivial | (intro _; assumption) | apply And.intro) ?_
          | refine TR.gp hP rfl (fun _ => by first | exact cr) (fun _ => by repeat' first | exact trivial | (intro _; assumption) | apply And.intro) ?_
          | refine TR.pv hP rfl (by first | exact cr) trivial (by repeat' first | exact trivial | (intro _; assumption) | apply And.intro) ?_
         try simp only [vcb, ↓evSo_some, ↓reduceIte, reduceCtorEq, seval])
      | refine And.intro (fun h => ?_) (fun h => ?_)
      | refine And.intro (by first | omega | (simp only [maxLen, decide_eq_true_eq, decide_eq_false_iff_not] at *; omega)) ?_
      | (refine TR.aslO rfl rfl rfl rfl trivial (Nat.le_of_ble_eq_true rfl) ?_
         try simp only [vcb, ↓evSo_some, ↓reduceIte, reduceCtorEq, seval])
      | refine And.intro trivial ?_
      | refine And.intro rfl ?_
      | fail
  · have e : bearsE t l = ([], 1) := by
      have h' : (t.kind != 3 || !(rightT t)) = true := by simpa using h
      rw [bearsE, if_pos (by rw [h', Bool.true_or])]
    (refine RetK.pure (by simp only [rs18, rsb, vcb, ↓evSo_some, ↓reduceIte, reduceCtorEq, seval]) (VLe.tups ?_); simp only [rs18, rsb, vcb, ↓evSo_some, ↓reduceIte, reduceCtorEq, seval])
    rw [e]; exact ⟨nilK, VLe.refl _, trivial⟩
  have hk : t.kind = 3 ∧ rightT t = true := by simpa using h
  clear h
  refine vcC.loop (X := Nat) (fun k => ⟨[(1, .d (slX l)), (2, .own 2 0), (6, .d (.int .i64 k))], [(2, .fix (cT t))], [2]⟩)
    (fun k => k ≤ l.length ∧ l.any (fun x => !(lossX x)) = (l.drop k).any (fun x => !(lossX x))) (fun k => l.length - k) 0 ⟨Nat.zero_le _, rfl⟩ (Wk.of _ hfn rfl (by simp only [slX, enb, vcb, ↓evSo_some, ↓reduceIte, reduceCtorEq, seval]) (by simp only [cT, enb, vcb, ↓evSo_some, ↓reduceIte, reduceCtorEq, seval])) ?_
  rintro k ⟨hkl, he⟩
  simp only [slX, cT, vcb, ↓evSo_some, ↓reduceIte, reduceCtorEq, seval]
  refine ⟨fun h1 => ?_, fun h1 => ?_⟩
  · have hlt : k < l.length := by have := of_decide_eq_true h1; omega
    obtain ⟨x, hd, hg, -, -⟩ := drop_at hlt
    have cl := s29 x
    simp only [vX, cX'] at cl
    rw [hd, List.any_cons] at he
    simp only [hg, vcb, ↓evSo_some, ↓reduceIte, reduceCtorEq, seval]
    repeat' first
        | (first
            | refine TR.p hP (by first | exact cl) (by repeat' first | exact trivial | (intro _; assumption) | apply And.intro) ?_
            | refine TR.gp hP rfl (fun _ => by first | exact cl) (fun _ => by repeat' first | exact trivial | (intro _; assumption) | apply And.intro) ?_
            | refine TR.pv hP rfl (by first | exact cl) trivial (by repeat' first | exact trivial | (intro _; assumption) | apply And.intro) ?_
           try simp only [hg, vcb, ↓evSo_some, ↓reduceIte, reduceCtorEq, seval])
        | refine And.intro (fun h => ?_) (fun h => ?_)
        | refine And.intro (by first | omega | (simp only [maxLen, decide_eq_true_eq, decide_eq_false_iff_not] at *; omega)) ?_
        | (refine TR.aslO rfl rfl rfl rfl trivial (Nat.le_of_ble_eq_true rfl) ?_
           try simp only [hg, vcb, ↓evSo_some, ↓reduceIte, reduceCtorEq, seval])
        | refine And.intro trivial ?_
        | refine And.intro rfl ?_
        | fail
    · have e : bearsE t l = ([], 1) := by
        rw [h, Bool.true_or] at he
        rw [bearsE, if_pos (by rw [he, Bool.or_true])]
      (refine RetK.pure (by simp only [rs18, rsb, vcb, ↓evSo_some, ↓reduceIte, reduceCtorEq, seval]) (VLe.tups ?_); simp only [rs18, rsb, vcb, ↓evSo_some, ↓reduceIte, reduceCtorEq, seval])
      rw [e]; exact ⟨nilK, VLe.refl _, trivial⟩
    · rw [h, Bool.false_or] at he
      exact lopK.on (k + 1) ⟨hlt, he⟩ (by omega) (Wk.of _ hfn rfl (by simp only [slX, enb, vcb, ↓evSo_some, ↓reduceIte, reduceCtorEq, seval]; exact wS (by omega)) (by simp only [cT, enb, vcb, ↓evSo_some, ↓reduceIte, reduceCtorEq, seval]))
  have hkk : k = l.length := by have := of_decide_eq_false h1; omega
  rw [hkk, List.drop_length, List.any_nil] at he
  have hX : ∀ x, x ∈ l → lossX x = true := fun x hx => by
    have := List.any_eq_false.1 he x hx
    simpa using this
  have e0 : bearsE t l = if 2000 < l.length then ([], 2) else (bearsF t l (roomT t) (eventsT t l) (List.replicate l.length 0), 0) := by
    rw [bearsE, if_neg (by rw [he, hk.1, hk.2]; simp)]
  clear he h1 hkk hkl
  repeat' first
      | (first
          | refine TR.p hP (by first | exact cm | exact ce) (by repeat' first | exact trivial | (intro _; assumption) | apply And.intro) ?_
          | refine TR.gp hP rfl (fun _ => by first | exact cm | exact ce) (fun _ => by repeat' first | exact trivial | (intro _; assumption) | apply And.intro) ?_
          | refine TR.pv hP rfl (by first | exact cm | exact ce) trivial (by repeat' first | exact trivial | (intro _; assumption) | apply And.intro) ?_
         try simp only [vcb, ↓evSo_some, ↓reduceIte, reduceCtorEq, seval])
      | refine And.intro (fun h => ?_) (fun h => ?_)
      | refine And.intro (by first | omega | (simp only [maxLen, decide_eq_true_eq, decide_eq_false_iff_not] at *; omega)) ?_
      | (refine TR.aslO rfl rfl rfl rfl trivial (Nat.le_of_ble_eq_true rfl) ?_
         try simp only [vcb, ↓evSo_some, ↓reduceIte, reduceCtorEq, seval])
      | refine And.intro trivial ?_
      | refine And.intro rfl ?_
      | fail
  · have h2 : 2000 < l.length := by have := of_decide_eq_true h; omega
    rw [if_pos h2] at e0
    (refine RetK.pure (by simp only [rs18, rsb, vcb, ↓evSo_some, ↓reduceIte, reduceCtorEq, seval]) (VLe.tups ?_); simp only [rs18, rsb, vcb, ↓evSo_some, ↓reduceIte, reduceCtorEq, seval])
    rw [e0]; exact ⟨nilK, VLe.refl _, trivial⟩
  have h2 : ¬ 2000 < l.length := by have := of_decide_eq_false h; omega
  rw [if_neg h2] at e0
  clear h
  have hev := events_ok t l
  have hroom := (roomT_eq t).2
  generalize hG : eventsT t l = G at *
  have hbs := fun g (hg : g ∈ G) => amts_bounds hX (hev.2.2 g hg)
  refine vcC.loop (X := Nat × Int × List Int) (fun x => ⟨[(1, .d (slX l)), (2, .own 2 0), (7, .osl 43), (8, .d (.int .i64 x.2.1)), (9, gD G), (10, .d (.int .i64 x.1))],
      [(2, .fix (cT t)), (43, .row 3 1 x.2.2.length (fun i => [.int .i64 (x.2.2.getD i 0)]))], [2, 43]⟩)
    (fun x => x.1 ≤ G.length ∧ x.2.2.length = l.length ∧ 0 ≤ x.2.1 ∧ x.2.1 ≤ roomT t ∧ bearsF t l (roomT t) G (List.replicate l.length 0) = bearsF t l x.2.1 (G.drop x.1) x.2.2) (fun x => G.length - x.1) (0, roomT t, List.replicate l.length 0) ⟨Nat.zero_le _, by simp, hroom.1, Int.le_refl _, rfl⟩
    (Wk.of _ hfn rfl (by simp only [slX, gD, enb, vcb, ↓evSo_some, ↓reduceIte, reduceCtorEq, seval]) (by simp only [cT, enb, vcb, ↓evSo_some, ↓reduceIte, reduceCtorEq, seval]; exact OLe.row (by simp) fun i hi => by simp [List.getD_eq_getElem?_getD, List.getElem?_replicate, hi])) ?_
  rintro ⟨j, left, out⟩ ⟨hj, hout, hl0, hl1, he⟩
  simp only at hj hout hl0 hl1 he
  simp only [slX, cT, gD, vcb, ↓evSo_some, ↓reduceIte, reduceCtorEq, seval]
  refine ⟨fun h1 => ?_, fun h1 => ?_⟩
  · have hlt : j < G.length := by have := of_decide_eq_true h1; omega
    obtain ⟨g, hd, hgd, hgm, -⟩ := drop_at hlt
    have hgb := hbs g hgm
    have hge := hev.2.1 g hgm
    have hgi := hev.2.2 g hgm
    rw [hd, bearsF] at he
    have hsn : (amtsT l g).length = g.length := by rw [amtsT, List.length_map]
    have ca := rAmts l g (by omega) hgi
    have cs := rSum (amtsT l g) (by omega) (fun a ha => (hgb.1 a ha).1)
    have hsum : (amtsT l g).sum ≤ 2000000000000000000 := by have := hgb.2.2; omega
    rw [sum1R, if_neg (by omega)] at cs
    have cp := s19 t (amtsT l g).sum
    simp only [vT, cT] at cp
    simp only [slX, slK] at ca
    simp only [slK] at cs
    simp only [nestD, cI, hgd, vcb, ↓evSo_some, ↓reduceIte, reduceCtorEq, seval]
    repeat' first
        | (first
            | refine TR.p hP (by first | exact ca | exact cs | exact cp) (by repeat' first | exact trivial | (intro _; assumption) | apply And.intro) ?_
            | refine TR.gp hP rfl (fun _ => by first | exact ca | exact cs | exact cp) (fun _ => by repeat' first | exact trivial | (intro _; assumption) | apply And.intro) ?_
            | refine TR.pv hP rfl (by first | exact ca | exact cs | exact cp) trivial (by repeat' first | exact trivial | (intro _; assumption) | apply And.intro) ?_
           try simp only [nestD, cI, hgd, vcb, ↓evSo_some, ↓reduceIte, reduceCtorEq, seval])
        | refine And.intro (fun h => ?_) (fun h => ?_)
        | refine And.intro (by first | omega | (simp only [maxLen, decide_eq_true_eq, decide_eq_false_iff_not] at *; omega)) ?_
        | (refine TR.aslO rfl rfl rfl rfl trivial (Nat.le_of_ble_eq_true rfl) ?_
           try simp only [nestD, cI, hgd, vcb, ↓evSo_some, ↓reduceIte, reduceCtorEq, seval])
        | refine And.intro trivial ?_
        | refine And.intro rfl ?_
        | fail
    · have h' := of_decide_eq_true h
      have hmin : min left (partT t (amtsT l g).sum) = left := by omega
      have hpn := part_nn t (amt := (amtsT l g).sum) hgb.2.1 (by omega)
      rw [hmin] at he
      have hb0 : 0 ≤ left ∧ left ≤ left := by omega
      have ewl : IntKind.i64.wrap (left - left) = left - left := wI (by omega)
      have csp := rSplit (left) (amtsT l g) (by omega) (by omega)
      have hsl := split_len (left) (amtsT l g)
      simp only [slK] at csp
      simp only [ewl]
      repeat' first
          | (first
              | refine TR.p hP (by first | exact csp) (by repeat' first | exact trivial | (intro _; assumption) | apply And.intro) ?_
              | refine TR.gp hP rfl (fun _ => by first | exact csp) (fun _ => by repeat' first | exact trivial | (intro _; assumption) | apply And.intro) ?_
              | refine TR.pv hP rfl (by first | exact csp) trivial (by repeat' first | exact trivial | (intro _; assumption) | apply And.intro) ?_
             try simp only [vcb, ↓evSo_some, ↓reduceIte, reduceCtorEq, seval])
          | refine And.intro (fun h => ?_) (fun h => ?_)
          | refine And.intro (by first | omega | (simp only [maxLen, decide_eq_true_eq, decide_eq_false_iff_not] at *; omega)) ?_
          | (refine TR.aslO rfl rfl rfl rfl trivial (Nat.le_of_ble_eq_true rfl) ?_
             try simp only [vcb, ↓evSo_some, ↓reduceIte, reduceCtorEq, seval])
          | refine And.intro trivial ?_
          | refine And.intro rfl ?_
          | fail
      generalize hds : (splitR (left) (amtsT l g)) = dd at *
      obtain ⟨ds, ec⟩ := dd
      simp only at hsl he
      refine vcC.loop (X := Nat × List Int) (fun x => ⟨[(1, .d (slX l)), (2, .own 2 0), (7, .osl 43), (8, .d (.int .i64 (left - left))), (9, gD G), (10, .d (.int .i64 j)), (15, .d (slK .i64 ds)), (16, .d (.int .i64 ec)), (17, .d (.int .i64 x.1))],
          [(2, .fix (cT t)), (43, .row 3 1 x.2.length (fun i => [.int .i64 (x.2.getD i 0)]))], [2, 43]⟩)
        (fun x => x.1 ≤ ds.length ∧ x.2.length = l.length ∧ putAll out g ds = putAll x.2 (g.drop x.1) (ds.drop x.1)) (fun x => ds.length - x.1) (0, out) ⟨Nat.zero_le _, hout, rfl⟩
        (Wk.of _ hfn rfl (by simp only [slX, gD, nestD, cI, enb, vcb, ↓evSo_some, ↓reduceIte, reduceCtorEq, seval]) (by simp only [cT, enb, vcb, ↓evSo_some, ↓reduceIte, reduceCtorEq, seval])) ?_
      rintro ⟨q, cur⟩ ⟨hq, hcur, hpa⟩
      simp only at hq hcur hpa
      simp only [slX, cT, gD, nestD, cI, hgd, vcb, ↓evSo_some, ↓reduceIte, reduceCtorEq, seval]
      refine ⟨fun h3 => ?_, fun h3 => ?_⟩
      · rw [Bool.and_eq_true, decide_eq_true_eq] at h3
        have hlq : q < ds.length := by omega
        obtain ⟨m, hd3, hgm3, -, -⟩ := drop_at hlq
        obtain ⟨x, hd4, hgx, hxm, -⟩ := drop_at (l := g) (k := q) (by omega)
        have hb4 := hgi x hxm
        have hb5 : (0 : Int) ≤ x ∧ x < (cur.length : Int) := by rw [hcur]; exact hb4
        rw [hd3, hd4, putAll] at hpa
        simp only [hgm3, hgx, vcb, ↓evSo_some, ↓reduceIte, reduceCtorEq, seval]
        repeat' first
            | refine And.intro (fun h => ?_) (fun h => ?_)
            | refine And.intro (by first | omega | (simp only [maxLen, decide_eq_true_eq, decide_eq_false_iff_not] at *; omega)) ?_
            | (refine TR.aslO rfl rfl rfl rfl trivial (Nat.le_of_ble_eq_true rfl) ?_
               try simp only [hgm3, hgx, nestD, cI, hgd, vcb, ↓evSo_some, ↓reduceIte, reduceCtorEq, seval])
            | refine And.intro trivial ?_
            | refine And.intro rfl ?_
            | fail
        exact lopK.on (q + 1, cur.set x.toNat m) ⟨hlq, by simp [hcur], hpa⟩ (by simp only; omega) (Wk.of _ hfn rfl (by simp only [slX, gD, nestD, cI, enb, vcb, ↓evSo_some, ↓reduceIte, reduceCtorEq, seval]; exact wS (by omega)) (by simp only [cT, enb, vcb, ↓evSo_some, ↓reduceIte, reduceCtorEq, seval]; exact OLe.row (by simp) fun i hi => putI hi))
      · have hfin : putAll cur (g.drop q) (ds.drop q) = cur := by
          have hqe : q = ds.length := by
            rw [Bool.and_eq_false_iff] at h3
            rcases h3 with h3 | h3
            · have := of_decide_eq_false h3; omega
            · have : ds = [] := hsl.2 (by simpa using h3)
              rw [this] at hq ⊢; simpa using hq
          rw [hqe, List.drop_length]
          cases g.drop ds.length <;> simp [putAll]
        rw [hfin] at hpa
        rw [hpa] at he
        exact lopK.on (j + 1, left - left, cur) ⟨hlt, hcur, by simp only; omega, by simp only; omega, he⟩ (by simp only; omega) (Wk.of _ hfn rfl (by simp only [slX, gD, nestD, cI, enb, vcb, ↓evSo_some, ↓reduceIte, reduceCtorEq, seval]; exact wS (by omega)) (by simp only [cT, enb, vcb, ↓evSo_some, ↓reduceIte, reduceCtorEq, seval]))
    · have h' := of_decide_eq_false h
      have hmin : min left (partT t (amtsT l g).sum) = partT t (amtsT l g).sum := by omega
      have hpn := part_nn t (amt := (amtsT l g).sum) hgb.2.1 (by omega)
      rw [hmin] at he
      generalize hbB : partT t (amtsT l g).sum = b at *
      have hb0 : 0 ≤ b ∧ b ≤ left := by omega
      have ewl : IntKind.i64.wrap (left - b) = left - b := wI (by omega)
      have csp := rSplit (b) (amtsT l g) (by omega) (by omega)
      have hsl := split_len (b) (amtsT l g)
      simp only [slK] at csp
      simp only [ewl]
      repeat' first
          | (first
              | refine TR.p hP (by first | exact csp) (by repeat' first | exact trivial | (intro _; assumption) | apply And.intro) ?_
              | refine TR.gp hP rfl (fun _ => by first | exact csp) (fun _ => by repeat' first | exact trivial | (intro _; assumption) | apply And.intro) ?_
              | refine TR.pv hP rfl (by first | exact csp) trivial (by repeat' first | exact trivial | (intro _; assumption) | apply And.intro) ?_
             try simp only [vcb, ↓evSo_some, ↓reduceIte, reduceCtorEq, seval])
          | refine And.intro (fun h => ?_) (fun h => ?_)
          | refine And.intro (by first | omega | (simp only [maxLen, decide_eq_true_eq, decide_eq_false_iff_not] at *; omega)) ?_
          | (refine TR.aslO rfl rfl rfl rfl trivial (Nat.le_of_ble_eq_true rfl) ?_
             try simp only [vcb, ↓evSo_some, ↓reduceIte, reduceCtorEq, seval])
          | refine And.intro trivial ?_
          | refine And.intro rfl ?_
          | fail
      generalize hds : (splitR (b) (amtsT l g)) = dd at *
      obtain ⟨ds, ec⟩ := dd
      simp only at hsl he
      refine vcC.loop (X := Nat × List Int) (fun x => ⟨[(1, .d (slX l)), (2, .own 2 0), (7, .osl 43), (8, .d (.int .i64 (left - b))), (9, gD G), (10, .d (.int .i64 j)), (15, .d (slK .i64 ds)), (16, .d (.int .i64 ec)), (17, .d (.int .i64 x.1))],
          [(2, .fix (cT t)), (43, .row 3 1 x.2.length (fun i => [.int .i64 (x.2.getD i 0)]))], [2, 43]⟩)
        (fun x => x.1 ≤ ds.length ∧ x.2.length = l.length ∧ putAll out g ds = putAll x.2 (g.drop x.1) (ds.drop x.1)) (fun x => ds.length - x.1) (0, out) ⟨Nat.zero_le _, hout, rfl⟩
        (Wk.of _ hfn rfl (by simp only [slX, gD, nestD, cI, enb, vcb, ↓evSo_some, ↓reduceIte, reduceCtorEq, seval]) (by simp only [cT, enb, vcb, ↓evSo_some, ↓reduceIte, reduceCtorEq, seval])) ?_
      rintro ⟨q, cur⟩ ⟨hq, hcur, hpa⟩
      simp only at hq hcur hpa
      simp only [slX, cT, gD, nestD, cI, hgd, vcb, ↓evSo_some, ↓reduceIte, reduceCtorEq, seval]
      refine ⟨fun h3 => ?_, fun h3 => ?_⟩
      · rw [Bool.and_eq_true, decide_eq_true_eq] at h3
        have hlq : q < ds.length := by omega
        obtain ⟨m, hd3, hgm3, -, -⟩ := drop_at hlq
        obtain ⟨x, hd4, hgx, hxm, -⟩ := drop_at (l := g) (k := q) (by omega)
        have hb4 := hgi x hxm
        have hb5 : (0 : Int) ≤ x ∧ x < (cur.length : Int) := by rw [hcur]; exact hb4
        rw [hd3, hd4, putAll] at hpa
        simp only [hgm3, hgx, vcb, ↓evSo_some, ↓reduceIte, reduceCtorEq, seval]
        repeat' first
            | refine And.intro (fun h => ?_) (fun h => ?_)
            | refine And.intro (by first | omega | (simp only [maxLen, decide_eq_true_eq, decide_eq_false_iff_not] at *; omega)) ?_
            | (refine TR.aslO rfl rfl rfl rfl trivial (Nat.le_of_ble_eq_true rfl) ?_
               try simp only [hgm3, hgx, nestD, cI, hgd, vcb, ↓evSo_some, ↓reduceIte, reduceCtorEq, seval])
            | refine And.intro trivial ?_
            | refine And.intro rfl ?_
            | fail
        exact lopK.on (q + 1, cur.set x.toNat m) ⟨hlq, by simp [hcur], hpa⟩ (by simp only; omega) (Wk.of _ hfn rfl (by simp only [slX, gD, nestD, cI, enb, vcb, ↓evSo_some, ↓reduceIte, reduceCtorEq, seval]; exact wS (by omega)) (by simp only [cT, enb, vcb, ↓evSo_some, ↓reduceIte, reduceCtorEq, seval]; exact OLe.row (by simp) fun i hi => putI hi))
      · have hfin : putAll cur (g.drop q) (ds.drop q) = cur := by
          have hqe : q = ds.length := by
            rw [Bool.and_eq_false_iff] at h3
            rcases h3 with h3 | h3
            · have := of_decide_eq_false h3; omega
            · have : ds = [] := hsl.2 (by simpa using h3)
              rw [this] at hq ⊢; simpa using hq
          rw [hqe, List.drop_length]
          cases g.drop ds.length <;> simp [putAll]
        rw [hfin] at hpa
        rw [hpa] at he
        exact lopK.on (j + 1, left - b, cur) ⟨hlt, hcur, by simp only; omega, by simp only; omega, he⟩ (by simp only; omega) (Wk.of _ hfn rfl (by simp only [slX, gD, nestD, cI, enb, vcb, ↓evSo_some, ↓reduceIte, reduceCtorEq, seval]; exact wS (by omega)) (by simp only [cT, enb, vcb, ↓evSo_some, ↓reduceIte, reduceCtorEq, seval]))
  · have hjn : j = G.length := by have := of_decide_eq_false h1; omega
    rw [hjn, List.drop_length, bearsF] at he
    repeat' first
        | refine And.intro (fun h => ?_) (fun h => ?_)
        | refine And.intro (by first | omega | (simp only [maxLen, decide_eq_true_eq, decide_eq_false_iff_not] at *; omega)) ?_
        | (refine TR.aslO rfl rfl rfl rfl trivial (Nat.le_of_ble_eq_true rfl) ?_
           try simp only [vcb, ↓evSo_some, ↓reduceIte, reduceCtorEq, seval])
        | refine And.intro trivial ?_
        | refine And.intro rfl ?_
        | fail
    refine RetK.mk _ ((Wk.of (b := ⟨[(4, .osl 43), (5, .d (.int .i64 0))], [(43, .row 3 1 out.length (fun i => [.int .i64 (out.getD i 0)]))], [43]⟩) _ hfn rfl (by simp only [enb, vcb, ↓evSo_some, ↓reduceIte, reduceCtorEq, seval]) (by simp only [enb, vcb, ↓evSo_some, ↓reduceIte, reduceCtorEq, seval])).trans (Wk.pub 43 rfl)) (by simp only [rs18, rsb, vcb, ↓evSo_some, ↓reduceIte, reduceCtorEq, seval]) ?_ trivial
    simp only [rs18, rsb, vcb, ↓evSo_some, ↓reduceIte, reduceCtorEq, seval]
    rw [e0, he]; exact VLe.tups ⟨VLe.refl _, VLe.refl _, trivial⟩
end Go.Proofs.Ytkifajabiggfmaa
end
section
set_option linter.unusedSimpArgs false
set_option linter.unusedVariables false
namespace Go.Proofs.Ytkifajabiggfmaa
set_option linter.unusedSimpArgs false
set_option linter.unusedVariables false
open Go.Bx
set_option maxRecDepth 10000
def rowsD (G : List (List Int)) : D := .sl false 1 G.length (nestD 0 cI 1 G)
theorem rSame2 (G H : List (List Int)) (hG : G.length ≤ 1000000) (hg : ∀ g, g ∈ G → g.length ≤ 1000000) : Ctr Try.prog 12 [.d (rowsD G), .d (rowsD H)] [] (.d (.bool (decide (G = H)))) [] [] := by
  by_cases hl : G.length = H.length
  · have d0 : (((G.length : Int) != (H.length : Int))) = false := by rw [bne_eq_false_iff_eq]; omega
    refine ctr_pure Try.func12 ok12 rfl cc12 cr12 Try.ntmps12 (by simp) rfl rfl ?_; intro c hP hfn; simp only [kc12, rowsD, d0, vcb, ↓evSo_some, ↓reduceIte, reduceCtorEq, seval]
    repeat' first
        | refine And.intro (fun h => ?_) (fun h => ?_)
        | refine And.intro (by first | omega | (simp only [maxLen, decide_eq_true_eq, decide_eq_false_iff_not] at *; omega)) ?_
        | (refine TR.aslO rfl rfl rfl rfl trivial (Nat.le_of_ble_eq_true rfl) ?_
           try simp only [d0, vcb, ↓evSo_some, ↓reduceIte, reduceCtorEq, seval])
        | refine And.intro trivial ?_
        | refine And.intro rfl ?_
        | fail
    refine vcC.loop (X := Nat) (fun k => ⟨[(0, .d (rowsD G)), (1, .d (rowsD H)), (5, .d (.int .i64 k))], [], []⟩)
      (fun k => k ≤ G.length ∧ ∀ j, j < k → G.getD j [] = H.getD j []) (fun k => G.length - k) 0 ⟨Nat.zero_le _, fun j hj => absurd hj (Nat.not_lt_zero j)⟩ (Wk.of _ hfn rfl (by simp only [rowsD, enb, vcb, ↓evSo_some, ↓reduceIte, reduceCtorEq, seval]) (by simp only [enb, vcb, ↓evSo_some, ↓reduceIte, reduceCtorEq, seval])) ?_
    rintro k ⟨hk, he⟩
    simp only [rowsD, vcb, ↓evSo_some, ↓reduceIte, reduceCtorEq, seval]
    refine ⟨fun h1 => ?_, fun h1 => ?_⟩
    · have hlt : k < G.length := by have := of_decide_eq_true h1; omega
      obtain ⟨g, hdg, hgg, hgm, -⟩ := drop_at hlt
      obtain ⟨g2, hdh, hgh, -, -⟩ := drop_at (l := H) (k := k) (by omega)
      have cs := s17 g g2 (by have := hg g hgm; omega)
      simp only [slK] at cs
      have e1 : ∀ d, G.getD k d = g := hgg
      have e2 : ∀ d, H.getD k d = g2 := hgh
      simp only [nestD, cI, e1, e2, vcb, ↓evSo_some, ↓reduceIte, reduceCtorEq, seval]
      repeat' first
          | (first
              | refine TR.p hP (by first | exact cs) (by repeat' first | exact trivial | (intro _; assumption) | apply And.intro) ?_
              | refine TR.gp hP rfl (fun _ => by first | exact cs) (fun _ => by repeat' first | exact trivial | (intro _; assumption) | apply And.intro) ?_
              | refine TR.pv hP rfl (by first | exact cs) trivial (by repeat' first | exact trivial | (intro _; assumption) | apply And.intro) ?_
             try simp only [nestD, cI, e1, e2, vcb, ↓evSo_some, ↓reduceIte, reduceCtorEq, seval])
          | refine And.intro (fun h => ?_) (fun h => ?_)
          | refine And.intro (by first | omega | (simp only [maxLen, decide_eq_true_eq, decide_eq_false_iff_not] at *; omega)) ?_
          | (refine TR.aslO rfl rfl rfl rfl trivial (Nat.le_of_ble_eq_true rfl) ?_
             try simp only [nestD, cI, e1, e2, vcb, ↓evSo_some, ↓reduceIte, reduceCtorEq, seval])
          | refine And.intro trivial ?_
          | refine And.intro rfl ?_
          | fail
      · have hne : g ≠ g2 := by simpa using h
        have : G ≠ H := fun e => hne (by rw [← hgg [], ← hgh [], e])
        exact RetK.pure (by simp only [rs12, rsb, vcb, ↓evSo_some, ↓reduceIte, reduceCtorEq, seval]) (by (simp only [rs12, rsb, vcb, ↓evSo_some, ↓reduceIte, reduceCtorEq, seval, enb, vcb, ↓evSo_some, ↓reduceIte, reduceCtorEq, seval]) <;> (first | simp [this]))
      · have hne : g = g2 := by simpa using h
        exact lopK.on (k + 1) ⟨hlt, fun j hj => by
          rcases Nat.lt_or_eq_of_le (Nat.le_of_lt_succ hj) with h2 | h2
          · exact he j h2
          · rw [h2, hgg, hgh, hne]⟩ (by omega) (Wk.of _ hfn rfl (by simp only [rowsD, nestD, cI, enb, vcb, ↓evSo_some, ↓reduceIte, reduceCtorEq, seval]; exact wS (by omega)) (by simp only [enb, vcb, ↓evSo_some, ↓reduceIte, reduceCtorEq, seval]))
    · have hkl : k = G.length := by have := of_decide_eq_false h1; omega
      have hGH : G = H := by
        refine List.ext_getElem? fun j => ?_
        by_cases hj : j < G.length
        · have := he j (by omega)
          rw [List.getD_eq_getElem?_getD, List.getD_eq_getElem?_getD, List.getElem?_eq_getElem hj, List.getElem?_eq_getElem (by omega : j < H.length)] at this
          rw [List.getElem?_eq_getElem hj, List.getElem?_eq_getElem (by omega : j < H.length)]
          simpa using this
        · rw [List.getElem?_eq_none (by omega), List.getElem?_eq_none (by omega)]
      repeat' first
          | refine And.intro (fun h => ?_) (fun h => ?_)
          | refine And.intro (by first | omega | (simp only [maxLen, decide_eq_true_eq, decide_eq_false_iff_not] at *; omega)) ?_
          | (refine TR.aslO rfl rfl rfl rfl trivial (Nat.le_of_ble_eq_true rfl) ?_
             try simp only [vcb, ↓evSo_some, ↓reduceIte, reduceCtorEq, seval])
          | refine And.intro trivial ?_
          | refine And.intro rfl ?_
          | fail
      exact RetK.pure (by simp only [rs12, rsb, vcb, ↓evSo_some, ↓reduceIte, reduceCtorEq, seval]) (by (simp only [rs12, rsb, vcb, ↓evSo_some, ↓reduceIte, reduceCtorEq, seval, enb, vcb, ↓evSo_some, ↓reduceIte, reduceCtorEq, seval]) <;> (first | simp [hGH]))
  · have d0 : (((G.length : Int) != (H.length : Int))) = true := by rw [bne_iff_ne]; omega
    have : G ≠ H := fun e => hl (by rw [e])
    refine ctr_pure Try.func12 ok12 rfl cc12 cr12 Try.ntmps12 (by simp) rfl rfl ?_; intro c hP hfn; simp only [kc12, rowsD, d0, vcb, ↓evSo_some, ↓reduceIte, reduceCtorEq, seval]
    repeat' first
        | refine And.intro (fun h => ?_) (fun h => ?_)
        | refine And.intro (by first | omega | (simp only [maxLen, decide_eq_true_eq, decide_eq_false_iff_not] at *; omega)) ?_
        | (refine TR.aslO rfl rfl rfl rfl trivial (Nat.le_of_ble_eq_true rfl) ?_
           try simp only [d0, vcb, ↓evSo_some, ↓reduceIte, reduceCtorEq, seval])
        | refine And.intro trivial ?_
        | refine And.intro rfl ?_
        | fail
    exact RetK.pure (by simp only [rs12, rsb, vcb, ↓evSo_some, ↓reduceIte, reduceCtorEq, seval]) (by (simp only [rs12, rsb, vcb, ↓evSo_some, ↓reduceIte, reduceCtorEq, seval, enb, vcb, ↓evSo_some, ↓reduceIte, reduceCtorEq, seval]) <;> (first | simp [this]))
end Go.Proofs.Ytkifajabiggfmaa
end
section
set_option linter.unusedSimpArgs false
set_option linter.unusedVariables false
namespace Go.Proofs.Ytkifajabiggfmaa
set_option linter.unusedSimpArgs false
set_option linter.unusedVariables false
open Go.Bx
set_option maxRecDepth 10000
theorem few (L : List Ls) : Ctr Try.prog 10 [.d (slX L)] [] (.d (.bool (decide (L.length ≤ 150)))) [] [] := by
  rw [show decide (L.length ≤ 150) = decide ((L.length : Int) ≤ 150) from decide_eq_decide.2 (by omega)]
  refine ctr_pure Try.func10 ok10 rfl cc10 cr10 Try.ntmps10 (by simp) rfl rfl ?_; intro c hP hfn; simp only [kc10, slX, vcb, ↓evSo_some, ↓reduceIte, reduceCtorEq, seval]
  exact RetK.pure (by simp only [rs10, rsb, vcb, ↓evSo_some, ↓reduceIte, reduceCtorEq, seval]) (by simp only [rs10, rsb, vcb, ↓evSo_some, ↓reduceIte, reduceCtorEq, seval, enb, vcb, ↓evSo_some, ↓reduceIte, reduceCtorEq, seval])
def ofT (a b c : Int) : Tr := ⟨1, 3, 1, 100, 0, a, b, c, 255⟩
def lossT (a b c : Int) : Ls := ⟨1, a, b, 0, c⟩
theorem lOf (a b c : Int) : Ctr Try.prog 25 [.d (.int .i64 a), .d (.int .i64 b), .d (.int .i64 c)] [] (vT (ofT a b c)) [] [] := by
  refine ctr_pure Try.func25 ok25 rfl cc25 cr25 Try.ntmps25 (by simp) rfl rfl ?_; intro c hP hfn; simp only [kc25, vcb, ↓evSo_some, ↓reduceIte, reduceCtorEq, seval]
  exact RetK.pure (by simp only [rs25, rsb, vcb, ↓evSo_some, ↓reduceIte, reduceCtorEq, seval]) (by simp only [rs25, rsb, vcb, ↓evSo_some, ↓reduceIte, reduceCtorEq, seval, enb, vcb, ↓evSo_some, ↓reduceIte, reduceCtorEq, seval, vT, cT, ofT])
theorem lLoss (a b c : Int) : Ctr Try.prog 24 [.d (.int .i64 a), .d (.int .i64 b), .d (.int .i64 c)] [] (vX (lossT a b c)) [] [] := by
  refine ctr_pure Try.func24 ok24 rfl cc24 cr24 Try.ntmps24 (by simp) rfl rfl ?_; intro c hP hfn; simp only [kc24, vcb, ↓evSo_some, ↓reduceIte, reduceCtorEq, seval]
  exact RetK.pure (by simp only [rs24, rsb, vcb, ↓evSo_some, ↓reduceIte, reduceCtorEq, seval]) (by simp only [rs24, rsb, vcb, ↓evSo_some, ↓reduceIte, reduceCtorEq, seval, enb, vcb, ↓evSo_some, ↓reduceIte, reduceCtorEq, seval, vX, cX', lossT])
theorem VLe.slD {full full' : Bool} {sz n : Nat} {f f' : Nat → List D} (hb : full' = true → full = true) (hf : ∀ i, i < n → (f i).length = (f' i).length ∧ ∀ (j : Nat) (x y : D), (f i)[j]? = some x → (f' i)[j]? = some y → VLe (.d x) (.d y)) : VLe (.d (.sl full sz n f)) (.d (.sl full' sz n f')) := by
  intro β E w v hv
  cases hv with
  | d _ _ hv =>
    refine .d _ _ ?_
    generalize hN : n = m at hv ⊢
    cases hv with
    | nil _ _ _ _ => exact .nil _ _ _ _
    | sl _ _ _ _ b off c g hc hfu hl hcell hrel =>
      subst hN
      refine .sl _ _ _ _ b off c g hc (fun h => hfu (hb h)) (fun i hi => by rw [← (hf i hi).1]; exact hl i hi) hcell (fun i j hi hj y hy => ?_)
      have hlt : j < (f i).length := by rw [hl i hi]; exact hj
      have h1 := hrel i j hi hj _ (List.getElem?_eq_getElem hlt)
      have h2 := (hf i hi).2 j _ y (List.getElem?_eq_getElem hlt) hy
      exact rel_d (h2 β E w _ (.d _ _ h1))
def exL : List Ls := [lossT 7 5 50, lossT 0 3 120, lossT 7 9 150]
theorem ex_bears0 : bearsE (ofT 100 60 0) exL = ([15, 0, 45], 0) := by decide +kernel
theorem ex_bears1 : bearsE (ofT 100 60 1) exL = ([15, 20, 45], 0) := by decide +kernel
theorem ex_bears2 : bearsE ⟨0, 0, 0, 0, 0, 0, 0, 0, 0⟩ exL = ([], 1) := by decide +kernel
theorem ex_group : groupT exL 3 = [[1, 0], [2]] := by decide +kernel
theorem ex_events : eventsT (ofT 1 1 1) exL = [[0, 2], [1]] := by decide +kernel
def eL : V := .d (.sl true 5 3 (litRow 5 [.int .i64 1, .int .i64 7, .int .i64 5, .int .i64 0, .int .i64 50, .int .i64 1, .int .i64 0, .int .i64 3, .int .i64 0, .int .i64 120, .int .i64 1, .int .i64 7, .int .i64 9, .int .i64 0, .int .i64 150]))
def eB0 : V := .d (.sl true 1 3 (litRow 1 [.int .i64 15, .int .i64 0, .int .i64 45]))
def eB1 : V := .d (.sl true 1 3 (litRow 1 [.int .i64 15, .int .i64 20, .int .i64 45]))
def eG : V := .d (.sl true 1 2 (litRow 1 [.sl true 1 2 (litRow 1 [.int .i64 1, .int .i64 0]), .sl true 1 1 (litRow 1 [.int .i64 2])]))
def eE : V := .d (.sl true 1 2 (litRow 1 [.sl true 1 2 (litRow 1 [.int .i64 0, .int .i64 2]), .sl true 1 1 (litRow 1 [.int .i64 1])]))
theorem vle_exL : VLe eL (.d (slX exL)) :=
  VLe.sl rfl (fun _ => rfl) (fun h => by cases h) fun i hi => by
    have : i = 0 ∨ i = 1 ∨ i = 2 := by omega
    rcases this with rfl | rfl | rfl <;> rfl
theorem vle_rows {a b c : Int} : VLe (.d (.sl true 1 2 (litRow 1 [.sl true 1 2 (litRow 1 [.int .i64 a, .int .i64 b]), .sl true 1 1 (litRow 1 [.int .i64 c])]))) (.d (rowsD [[a, b], [c]])) := by
  refine VLe.slD (fun h => by cases h) fun i hi => ?_
  have : i = 0 ∨ i = 1 := by omega
  rcases this with rfl | rfl <;> refine ⟨rfl, fun j x y hx hy => ?_⟩ <;> (
    have hj : j = 0 := by
      have := (List.getElem?_eq_some_iff.1 hy).1
      simp [nestD] at this; exact this
    subst hj
    simp [litRow] at hx
    simp [nestD] at hy
    subst hx; subst hy)
  · exact VLe.sl rfl (fun _ => rfl) (fun h => by cases h) fun i hi => by
      have : i = 0 ∨ i = 1 := by omega
      rcases this with rfl | rfl <;> rfl
  · exact VLe.sl rfl (fun _ => rfl) (fun h => by cases h) fun i hi => by
      have : i = 0 := by omega
      subst this; rfl
set_option maxHeartbeats 2000000 in
theorem lAlive : Ctr Try.prog 11 [] [] (.d (.bool true)) [] [] := by
  have c1 := sBears (ofT 100 60 0) exL (by decide)
  rw [ex_bears0] at c1
  have c1 := c1.arg (args := [vT (ofT 100 60 0), eL]) ⟨VLe.refl _, vle_exL, trivial⟩
  have c2 := sBears (ofT 100 60 1) exL (by decide)
  rw [ex_bears1] at c2
  have c2 := c2.arg (args := [vT (ofT 100 60 1), eL]) ⟨VLe.refl _, vle_exL, trivial⟩
  have c3 := sBears ⟨0, 0, 0, 0, 0, 0, 0, 0, 0⟩ exL (by decide)
  rw [ex_bears2] at c3
  have c3 := c3.arg (args := [vT ⟨0, 0, 0, 0, 0, 0, 0, 0, 0⟩, eL]) ⟨VLe.refl _, vle_exL, trivial⟩
  have c4 := (s17 [15, 0, 45] [15, 0, 45] (by decide)).arg (args := [.d (slK .i64 [15, 0, 45]), eB0]) ⟨VLe.refl _, LitI.vle (by repeat constructor) (by rfl), trivial⟩
  have c5 := (s17 [15, 20, 45] [15, 20, 45] (by decide)).arg (args := [.d (slK .i64 [15, 20, 45]), eB1]) ⟨VLe.refl _, LitI.vle (by repeat constructor) (by rfl), trivial⟩
  have c6 := sGroup exL 3 (by decide)
  rw [ex_group] at c6
  have c6 := c6.arg (args := [eL, .d (.int .i64 3)]) ⟨vle_exL, VLe.refl _, trivial⟩
  have c7 := (rSame2 [[1, 0], [2]] [[1, 0], [2]] (by decide) (by decide)).arg (args := [.d (rowsD [[1, 0], [2]]), eG]) ⟨VLe.refl _, vle_rows, trivial⟩
  have c8 := sEvents (ofT 1 1 1) exL (by decide)
  rw [ex_events] at c8
  have c8 := c8.arg (args := [vT (ofT 1 1 1), eL]) ⟨VLe.refl _, vle_exL, trivial⟩
  have c9 := (rSame2 [[0, 2], [1]] [[0, 2], [1]] (by decide) (by decide)).arg (args := [.d (rowsD [[0, 2], [1]]), eE]) ⟨VLe.refl _, vle_rows, trivial⟩
  have d1 := lLoss
  have d2 := lOf
  simp only [vT, vX, cT, cX', ofT, lossT, eL, eB0, eB1, eG, eE, rowsD, slK, List.length_cons, List.length_nil, Nat.zero_add, Nat.reduceAdd, decide_true] at c1 c2 c3 c4 c5 c6 c7 c8 c9 d1 d2
  refine ctr_pure Try.func11 ok11 rfl cc11 cr11 Try.ntmps11 (by simp) rfl rfl ?_; intro c hP hfn; simp only [kc11, vcb, ↓evSo_some, ↓reduceIte, reduceCtorEq, seval]
  repeat' first
      | (first
          | refine TR.p hP (by first | exact d1 _ _ _ | exact d2 _ _ _ | exact c1 | exact c2 | exact c3 | exact c4 | exact c5 | exact c6 | exact c7 | exact c8 | exact c9) (by repeat' first | exact trivial | (intro _; assumption) | apply And.intro) ?_
          | refine TR.gp hP rfl (fun _ => by first | exact d1 _ _ _ | exact d2 _ _ _ | exact c1 | exact c2 | exact c3 | exact c4 | exact c5 | exact c6 | exact c7 | exact c8 | exact c9) (fun _ => by repeat' first | exact trivial | (intro _; assumption) | apply And.intro) ?_
          | refine TR.pv hP rfl (by first | exact d1 _ _ _ | exact d2 _ _ _ | exact c1 | exact c2 | exact c3 | exact c4 | exact c5 | exact c6 | exact c7 | exact c8 | exact c9) trivial (by repeat' first | exact trivial | (intro _; assumption) | apply And.intro) ?_
         try simp only [Int.reduceBEq, Int.reduceNeg, vcb, ↓evSo_some, ↓reduceIte, reduceCtorEq, seval])
      | refine And.intro (fun h => ?_) (fun h => ?_)
      | refine And.intro (by first | omega | (simp only [maxLen, decide_eq_true_eq, decide_eq_false_iff_not] at *; omega)) ?_
      | (refine TR.aslO rfl rfl rfl rfl trivial (Nat.le_of_ble_eq_true rfl) ?_
         try simp only [Int.reduceBEq, Int.reduceNeg, vcb, ↓evSo_some, ↓reduceIte, reduceCtorEq, seval])
      | refine And.intro trivial ?_
      | refine And.intro rfl ?_
      | fail
  all_goals exact RetK.pure (by simp only [rs11, rsb, vcb, ↓evSo_some, ↓reduceIte, reduceCtorEq, seval]) (by (simp only [rs11, rsb, vcb, ↓evSo_some, ↓reduceIte, reduceCtorEq, seval, enb, vcb, ↓evSo_some, ↓reduceIte, reduceCtorEq, seval]) <;> (first | simp))
end Go.Proofs.Ytkifajabiggfmaa
end
section
set_option linter.unusedSimpArgs false
set_option linter.unusedVariables false
namespace Go.Proofs.Ytkifajabiggfmaa
set_option linter.unusedSimpArgs false
set_option linter.unusedVariables false
open Go.Bx
set_option maxRecDepth 10000
theorem bearsF_len (t : Tr) (l : List Ls) : ∀ (G : List (List Int)) (left : Int) (out : List Int), (bearsF t l left G out).length = out.length
  | [], _, _ => rfl
  | g :: G, left, out => by rw [bearsF, bearsF_len t l G, putAll_len]
theorem bearsE_len (t : Tr) (l : List Ls) : (bearsE t l).1.length ≤ l.length := by
  unfold bearsE
  split
  · simp
  · split
    · simp
    · simp [bearsF_len]
theorem lBears (t : Tr) (l : List Ls) (hp : ∀ x, x ∈ l → x.per ≤ 9223372036854775807) : Ctr Try.prog 6 [vT t, .d (slX l)] [] (.d (.bool true)) [] [] := by
  by_cases hl : l.length ≤ 150
  · have e1 : decide (l.length ≤ 150) = true := decide_eq_true hl
    have c1 := sBears t l (by omega)
    have c2 := rBears t l (by omega) hp
    have c3 := s17 (bearsE t l).1 (bearsE t l).1 (by have := bearsE_len t l; omega)
    have c0 := few l
    rw [e1] at c0
    simp only [vT, cT, slX, slK, decide_true] at c0 c1 c2 c3
    refine ctr_pure Try.func6 ok6 rfl cc6 cr6 Try.ntmps6 (by simp) rfl rfl ?_; intro c hP hfn; simp only [kc6, vT, cT, slX, vcb, ↓evSo_some, ↓reduceIte, reduceCtorEq, seval]
    repeat' first
        | (first
            | refine TR.p hP (by first | exact c0 | exact lAlive | exact c1 | exact c2 | exact c3) (by repeat' first | exact trivial | (intro _; assumption) | apply And.intro) ?_
            | refine TR.gp hP rfl (fun _ => by first | exact c0 | exact lAlive | exact c1 | exact c2 | exact c3) (fun _ => by repeat' first | exact trivial | (intro _; assumption) | apply And.intro) ?_
            | refine TR.pv hP rfl (by first | exact c0 | exact lAlive | exact c1 | exact c2 | exact c3) trivial (by repeat' first | exact trivial | (intro _; assumption) | apply And.intro) ?_
           try simp only [vcb, ↓evSo_some, ↓reduceIte, reduceCtorEq, seval])
        | refine And.intro (fun h => ?_) (fun h => ?_)
        | refine And.intro (by first | omega | (simp only [maxLen, decide_eq_true_eq, decide_eq_false_iff_not] at *; omega)) ?_
        | (refine TR.aslO rfl rfl rfl rfl trivial (Nat.le_of_ble_eq_true rfl) ?_
           try simp only [vcb, ↓evSo_some, ↓reduceIte, reduceCtorEq, seval])
        | refine And.intro trivial ?_
        | refine And.intro rfl ?_
        | fail
    exact RetK.pure (by simp only [rs6, rsb, vcb, ↓evSo_some, ↓reduceIte, reduceCtorEq, seval]) (by (simp only [rs6, rsb, vcb, ↓evSo_some, ↓reduceIte, reduceCtorEq, seval, enb, vcb, ↓evSo_some, ↓reduceIte, reduceCtorEq, seval]) <;> (first | simp))
  · have e1 : decide (l.length ≤ 150) = false := decide_eq_false hl
    have c0 := few l
    rw [e1] at c0
    simp only [vT, cT, slX] at c0
    refine ctr_pure Try.func6 ok6 rfl cc6 cr6 Try.ntmps6 (by simp) rfl rfl ?_; intro c hP hfn; simp only [kc6, vT, cT, slX, vcb, ↓evSo_some, ↓reduceIte, reduceCtorEq, seval]
    repeat' first
        | (first
            | refine TR.p hP (by first | exact c0 | exact lAlive) (by repeat' first | exact trivial | (intro _; assumption) | apply And.intro) ?_
            | refine TR.gp hP rfl (fun _ => by first | exact c0 | exact lAlive) (fun _ => by repeat' first | exact trivial | (intro _; assumption) | apply And.intro) ?_
            | refine TR.pv hP rfl (by first | exact c0 | exact lAlive) trivial (by repeat' first | exact trivial | (intro _; assumption) | apply And.intro) ?_
           try simp only [vcb, ↓evSo_some, ↓reduceIte, reduceCtorEq, seval])
        | refine And.intro (fun h => ?_) (fun h => ?_)
        | refine And.intro (by first | omega | (simp only [maxLen, decide_eq_true_eq, decide_eq_false_iff_not] at *; omega)) ?_
        | (refine TR.aslO rfl rfl rfl rfl trivial (Nat.le_of_ble_eq_true rfl) ?_
           try simp only [vcb, ↓evSo_some, ↓reduceIte, reduceCtorEq, seval])
        | refine And.intro trivial ?_
        | refine And.intro rfl ?_
        | fail
    exact RetK.pure (by simp only [rs6, rsb, vcb, ↓evSo_some, ↓reduceIte, reduceCtorEq, seval]) (by (simp only [rs6, rsb, vcb, ↓evSo_some, ↓reduceIte, reduceCtorEq, seval, enb, vcb, ↓evSo_some, ↓reduceIte, reduceCtorEq, seval]) <;> (first | simp))
end Go.Proofs.Ytkifajabiggfmaa
end
section
set_option linter.unusedSimpArgs false
set_option linter.unusedVariables false
namespace Go.Proofs.Ytkifajabiggfmaa
set_option linter.unusedSimpArgs false
set_option linter.unusedVariables false
open Go.ChangeShapes Go.WideShapes Go.ChangeAt Go.RowKit Go.Bx
set_option maxRecDepth 100000
theorem eventBears_lifted (os : Os) (started : os.Started) (H : Type) (enc : TypeId × Value → H) :
    ReturnsInHanded {} Try.checked os 6 .any (Rows.eventBearsSpec.pre6 enc Try.prog Try.f6 Rows.eventBearsRow.domain false) (Rows.eventBearsSpec.post enc Try.prog Try.f6 false true false false) := by
  refine returnsInHanded_of_change (C := Try.checked) Try.own started (by kernel_rfl) Try.func6
    (ChangeSpec.witness6 (enc := enc) (C := Try.checked) false ⟨#[], #[.agg #[.int .i64 0, .int .i64 0, .int .i64 0, .int .i64 0, .int .i64 0, .int .i64 0, .int .i64 0, .int .i64 0, .int .i64 0], .slice none 0 0], []⟩ 8 (by kernel_rfl) (by kernel_rfl) (by kernel_rfl) (by kernel_rfl)) ?_
  intro W base args ds gs before hval hW _ _
  refine law_calls (tb := 4) Try.laidOut (by kernel_rfl) (by kernel_rfl) Try.underlying4 rfl ?_ ?_ W base args ds gs before hval hW
  · intro ds hd
    match ds, hd with
    | [_, _], _ => rfl
  · intro W base args ds p hval hA
    rw [show Try.f6.params.toList = [36, 22] by kernel_rfl] at hA
    obtain ⟨v0, v1, d0, d1, p0, p1, rfl, rfl, _, h0, h1⟩ := trodAll_two hA
    obtain ⟨t, tk, r0⟩ := treaty_reads.agg (by kernel_rfl) (hval 0 36 v0 rfl rfl) h0
    obtain ⟨l, lk, r1⟩ := losses_reads.cell (by kernel_rfl) (hval 1 22 v1 rfl rfl) h1
    exact ⟨[vT t, .d (slX l)], rfl, rel2 r0 r1, lBears t l (fun x hx => (lk.2 x hx).2.2.2.1.2)⟩
theorem eventBears_holds : Rows.EventBearsSaid :=
  OpenClaim.holds_of_wide 6 Try.f6 rfl rfl rfl rfl rfl rfl rfl ⟨rfl, rfl, rfl, rfl, rfl⟩ rfl rfl rfl rfl rfl (by kernel_rfl) Try.func6 (by kernel_rfl)
    (of_decide_eq_true (by kernel_rfl)) (by unfold Func.isWrapper; first | (rw [if_pos (by decide +kernel)]; kernel_rfl) | (rw [if_neg (by decide +kernel)]; exact ⟨rfl, rfl⟩))
    (fun os started H enc _ => eventBears_lifted os started H enc)
end Go.Proofs.Ytkifajabiggfmaa
end
