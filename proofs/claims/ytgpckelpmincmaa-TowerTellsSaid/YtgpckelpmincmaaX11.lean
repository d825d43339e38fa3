import Derived.Test.YtgpckelpmincmaaX10
section
set_option linter.unusedSimpArgs false
set_option linter.unusedVariables false
namespace Go.Proofs.Ytgpckelpmincmaa
set_option linter.unusedSimpArgs false
set_option linter.unusedVariables false
open Go.Bx
set_option maxRecDepth 10000
def rfr (ts : List Tr) (base : List Ls) : List Int → Sw → Sw
  | [], s => s
  | k :: r, s => rfr ts base r (swe (ts.getD k.toNat default).id (bearsA (ts.getD k.toNat default) base) s)
def phR (l : List Ls) (ts : List Tr) (kd : Int) (s : Sw) : Sw := rfr ts (withX l s.1) (kindT ts kd) s
def phs (l : List Ls) (ts : List Tr) : Nat → Int → Sw → Sw
  | 0, _, s => s
  | n + 1, kd, s => phs l ts n (kd + 1) (phR l ts kd s)
def refT (ts : List Tr) (l : List Ls) : Sw := phs l ts 3 1 (sw0 l)
def rofT (ts : List Tr) (l : List Ls) : List (List (Int × Int)) × List Int × Int := if mayT ts l ≠ 0 then ([], [], mayT ts l) else ((refT ts l).2, (refT ts l).1, 0)
def roE (ts : List Tr) (l : List Ls) (kd : Int) : List (Nat × V) :=
  [(0, .d (slT ts)), (1, .d (slX l)), (8, .osl 27), (10, .osl 44), (11, .d (.int .i64 kd))]
def roSt (ts : List Tr) (l : List Ls) (kd : Int) (s : Sw) (ex : List (Nat × V)) (ox : List (Nat × Own)) (nx : List Nat) : St :=
  ⟨roE ts l kd ++ ex, (44, .lit 35 1 s.2.length (nCC s.2)) :: (([(27, rowI s.1)] ++ ox) ++ nOC s.2), ([44, 27] ++ nx) ++ nmN 5000 s.2.length⟩
theorem Wk.ro0 {c : Ctx} {st : St} {ts : List Tr} {l : List Ls} {kd : Int} {s : Sw} {ex : List (Nat × V)} {ox : List (Nat × Own)} {nx : List Nat} (hfn : c.fn = [])
    (hB : wkB [] ⟨roE ts l kd ++ ex, (44, .lit 35 1 0 []) :: ([(27, rowI s.1)] ++ ox), [44, 27] ++ nx⟩ = true) (hN : nx.all (fun k => decide (k < 5000)) = true)
    (he : EnvLe (renE (Go.Bx.sw 0 0) st.env) (roE ts l kd ++ ex)) (hA : OwnLeS (Go.Bx.sw 0 0) st.own ([(27, rowI s.1)] ++ ox))
    (hl : own? st.own 44 = some (.lit 35 1 s.2.length (nCC s.2))) (hi : ∀ j, own? st.own (5000 + j) = own? (nOC s.2) (5000 + j)) : Wk c st (roSt ts l kd s ex ox nx) :=
  Wk.nestKeep (K := 5000) 0 0 [] hfn (by omega) (by omega) (by omega) (by omega) (by simp) (by simp) hB (by simpa using hN) he hA hl hi
theorem Wk.roI {c : Ctx} {st : St} {ts : List Tr} {l : List Ls} (hfn : c.fn = []) (he : EnvLe (renE (Go.Bx.sw 0 0) st.env) (roE ts l 1)) (hA : OwnLeS (Go.Bx.sw 0 0) st.own [(27, rowI (l.map (·.amt)))])
    (hl : own? st.own 44 = some (.row 35 1 l.length (fun _ => [.sl true 0 0 fun _ => []]))) : Wk c st (roSt ts l 1 (sw0 l) [] [] []) := by
  have h := Wk.nest (c := c) (st := st) (dx := ((0, 0) : Int × Int)) (cells := cC) (K := 5000) (K' := 44) (τ := 0) (e' := 35) (e := 37) (sz := 2) (G := List.replicate l.length []) 0 0 [] hfn (by simp) (by simp) (env := roE ts l 1) (A := [(27, rowI (l.map (·.amt)))]) (N := [44, 27]) rfl rfl he hA
    ⟨_, hl, by simp only [Own.ren, List.length_replicate]; exact OLe.nest0⟩ (fun i g hg1 hg2 => by
      rw [List.getElem?_replicate] at hg1
      split at hg1
      · cases hg1; simp at hg2
      · cases hg1)
  unfold roSt
  simp only [sw0, List.append_nil]
  exact h
theorem kindT_len (ts : List Tr) (kd : Int) : (kindT ts kd).length ≤ ts.length ∧ ∀ e, e ∈ kindT ts kd → 0 ≤ e ∧ e < (ts.length : Int) := by
  have go : ∀ (r : List Tr) (k : Nat) (out : List Int), out.length ≤ k → (∀ e, e ∈ out → 0 ≤ e ∧ e < (k : Int)) → (kindGo ts kd k r out).length ≤ k + r.length ∧ ∀ e, e ∈ kindGo ts kd k r out → 0 ≤ e ∧ e < ((k + r.length : Nat) : Int) := by
    intro r
    induction r with
    | nil => intro k out h1 h2; exact ⟨by simpa [kindGo] using h1, by simpa [kindGo] using h2⟩
    | cons t r ih =>
      intro k out h1 h2
      rw [kindGo, List.length_cons, show k + (r.length + 1) = k + 1 + r.length by omega]
      refine ih (k + 1) _ ?_ ?_
      · split
        · rw [insK_len]; omega
        · omega
      · intro e he
        split at he
        · rcases insK_mem he with h | h
          · have := h2 e h; omega
          · omega
        · have := h2 e he; omega
  have := go ts 0 [] (Nat.le_refl _) (by simp)
  rw [Nat.zero_add] at this
  exact this
set_option maxHeartbeats 8000000 in
theorem rROf (ts : List Tr) (l : List Ls) (ht : ts.length ≤ 1000) (hl : l.length ≤ 1000000) (hp : ∀ x, x ∈ l → x.per ≤ 9223372036854775807) :
    Ctr Try.prog 12 [.d (slT ts), .d (slX l)] [] (.tup [.d (.sl false 1 (rofT ts l).1.length (nestD (0, 0) cC 2 (rofT ts l).1)), .d (slK .i64 (rofT ts l).2.1), .d (.int .i64 (rofT ts l).2.2)]) [] [] := by
  have cm := rCheck ts l ht hl hp
  simp only [slT, slX] at cm
  refine ctr_pure Try.func12 ok12 rfl cc12 cr12 Try.ntmps12 (by simp) rfl rfl ?_; intro c hP hfn; simp only [kc12, slT, slX, vcb, ↓evSo_some, ↓reduceIte, reduceCtorEq, seval]
  repeat' first
      | (first
          | refine TR.p hP (by first | exact cm) (by repeat' first | exact trivial | (intro _; assumption) | apply And.intro) ?_
          | refine TR.gp hP rfl (fun _ => by first | exact cm) (fun _ => by repeat' first | exact trivial | (intro _; assumption) | apply And.intro) ?_
          | refine TR.pv hP rfl (by first | exact cm) trivial (by repeat' first | exact trivial | (intro _; assumption) | apply And.intro) ?_
         try simp only [vcb, ↓evSo_some, ↓reduceIte, reduceCtorEq, seval])
      | refine And.intro (fun h => ?_) (fun h => ?_)
      | refine And.intro (by first | omega | (simp only [maxLen, decide_eq_true_eq, decide_eq_false_iff_not] at *; omega)) ?_
      | (refine TR.aslO rfl rfl rfl rfl trivial (Nat.le_of_ble_eq_true rfl) ?_
         try simp only [vcb, ↓evSo_some, ↓reduceIte, reduceCtorEq, seval])
      | refine And.intro trivial ?_
      | refine And.intro rfl ?_
      | fail
  · have h' : mayT ts l ≠ 0 := by simpa using h
    have e : rofT ts l = ([], [], mayT ts l) := by rw [rofT, if_pos h']
    (refine RetK.pure (by simp only [rs12, rsb, vcb, ↓evSo_some, ↓reduceIte, reduceCtorEq, seval]) (VLe.tups ?_); simp only [rs12, rsb, vcb, ↓evSo_some, ↓reduceIte, reduceCtorEq, seval])
    rw [e]; exact ⟨VLe.nil rfl (by simp), nilK, VLe.refl _, trivial⟩
  have h0 : mayT ts l = 0 := by simpa using h
  clear h
  obtain ⟨hR, hX, hts, hls, -, -⟩ := may_ok h0
  have hof : rofT ts l = ((refT ts l).2, (refT ts l).1, 0) := by rw [rofT, if_neg (by simp [h0])]
  refine vcC.loop (X := Nat) (fun i => ⟨[(0, .d (slT ts)), (1, .d (slX l)), (8, .osl 27), (9, .d (.int .i64 i))], [(27, .row 3 1 l.length (fun j => [.int .i64 (((l.map (·.amt)).take i).getD j 0)]))], [27]⟩)
    (fun i => i ≤ l.length) (fun i => l.length - i) 0 (Nat.zero_le _) (Wk.of _ hfn rfl (by simp only [slT, slX, enb, vcb, ↓evSo_some, ↓reduceIte, reduceCtorEq, seval]) (by simp only [enb, vcb, ↓evSo_some, ↓reduceIte, reduceCtorEq, seval]; exact OLe.row rfl fun i _ => by simp)) ?_
  rintro i hi
  simp only [slT, slX, vcb, ↓evSo_some, ↓reduceIte, reduceCtorEq, seval]
  refine ⟨fun h2 => ?_, fun h2 => ?_⟩
  · have hi2 : i < l.length := by have := of_decide_eq_true h2; omega
    have ewi : IntKind.i64.wrap ((i : Int) + 1) = ((i + 1 : Nat) : Int) := wS (by omega)
    have hrw : ∀ q, q < l.length → (if q = i then putD [.int .i64 (((l.map (·.amt)).take i).getD i 0)] 0 [.int .i64 (l.getD i default).amt] else [.int .i64 (((l.map (·.amt)).take i).getD q 0)] : List D) = [.int .i64 (((l.map (·.amt)).take (i + 1)).getD q 0)] := fun q hq => by
      by_cases e : q = i
      · subst e; simp [putD, List.getElem?_take, List.getElem?_eq_getElem hi2]
      · rw [if_neg e]
        simp only [List.getD_eq_getElem?_getD, List.getElem?_take]
        by_cases e2 : q < i
        · rw [if_pos e2, if_pos (by omega)]
        · rw [if_neg e2, if_neg (by omega)]
    repeat' first
        | refine And.intro (fun h => ?_) (fun h => ?_)
        | refine And.intro (by first | omega | (simp only [maxLen, decide_eq_true_eq, decide_eq_false_iff_not] at *; omega)) ?_
        | (refine TR.aslO rfl rfl rfl rfl trivial (Nat.le_of_ble_eq_true rfl) ?_
           try simp only [vcb, ↓evSo_some, ↓reduceIte, reduceCtorEq, seval])
        | refine And.intro trivial ?_
        | refine And.intro rfl ?_
        | fail
    exact lopK.on (i + 1) hi2 (by omega) (Wk.of _ hfn rfl (by simp only [slT, slX, ewi, enb, vcb, ↓evSo_some, ↓reduceIte, reduceCtorEq, seval]) (by simp only [enb, vcb, ↓evSo_some, ↓reduceIte, reduceCtorEq, seval]; exact OLe.row rfl hrw))
  have hil : i = l.length := by have := of_decide_eq_false h2; omega
  have htk : (l.map (·.amt)).take l.length = l.map (·.amt) := List.take_of_length_le (by simp)
  subst hil
  rw [htk]
  clear h2 hi
  repeat' first
      | refine And.intro (fun h => ?_) (fun h => ?_)
      | refine And.intro (by first | omega | (simp only [maxLen, decide_eq_true_eq, decide_eq_false_iff_not] at *; omega)) ?_
      | (refine TR.aslO rfl rfl rfl rfl trivial (Nat.le_of_ble_eq_true rfl) ?_
         try simp only [vcb, ↓evSo_some, ↓reduceIte, reduceCtorEq, seval])
      | refine And.intro trivial ?_
      | refine And.intro rfl ?_
      | fail
  refine vcC.loop (X := Nat × Sw) (fun x => roSt ts l ((x.1 : Int) + 1) x.2 [] [] [])
    (fun x => x.1 ≤ 3 ∧ (∃ K, K ≤ 1000 * x.1 ∧ SwI l K 0 x.2) ∧ refT ts l = phs l ts (3 - x.1) ((x.1 : Int) + 1) x.2) (fun x => 3 - x.1) (0, sw0 l) ⟨Nat.zero_le _, ⟨0, Nat.zero_le _, sw0_ok l hX⟩, rfl⟩
    (Wk.roI hfn (by simp only [roE, slT, slX, enb, vcb, ↓evSo_some, ↓reduceIte, reduceCtorEq, seval]) (by simp only [OwnLeS, rowI, enb, vcb, ↓evSo_some, ↓reduceIte, reduceCtorEq, seval]; exact OLe.row (by simp) fun _ _ => rfl) (by simp only [enb, vcb, ↓evSo_some, ↓reduceIte, reduceCtorEq, seval])) ?_
  rintro ⟨d, s⟩ ⟨hd3, ⟨K, hK, hI⟩, he⟩
  simp only at hd3 hK hI he
  have hsl := hI.lg
  simp only [roSt, roE, slT, slX, rowI, List.append_nil, List.cons_append, List.nil_append, own?_setO, own?_nestD, own?_delC, own?_delC1, own?_delC2, ne_lo', ne_hi, mem_nmN, vcb, ↓evSo_some, ↓reduceIte, reduceCtorEq, seval]
  refine ⟨fun h1 => ?_, fun h1 => ?_⟩
  · have hd : d < 3 := by have := of_decide_eq_true h1; omega
    have ewd : IntKind.i64.wrap ((d : Int) + 1 + 1) = ((d + 1 : Nat) : Int) + 1 := (wI (by omega)).trans (by omega)
    rw [show 3 - d = (3 - (d + 1)) + 1 by omega, phs] at he
    have hbl : (withX l s.1).length = l.length := with_len hI.la
    have hbase : RdOk l (withX l s.1) := RdOk.next hI
    have hbper : ∀ x, x ∈ withX l s.1 → x.per ≤ 9223372036854775807 := fun x hx => by
      have := (lossX_iff.1 (with_right hI.la hX hI.am x hx)).2.2.2.1; omega
    have cw := (rWith l s.1 hI.la hl).sw 2 27
    simp only [rowI, slX, vcb, ↓evSo_some, ↓reduceIte, reduceCtorEq, seval] at cw
    have ck := rKindD ts ((d : Int) + 1) ht
    simp only [slT, slK] at ck
    have hkl := kindT_len ts ((d : Int) + 1)
    refine TR.keep [27] (.d (slX (withX l s.1))) (valid_keep (ins := [(27, rowI s.1)]) (valid_call (by rw [hP]; exact cw) (by repeat' first | exact trivial | (intro _; assumption) | apply And.intro) (hin1 rfl) (by simp [keysO])) (hin1 rfl) (by simp [keysO]) (by simp [keysO])) ?_
    simp only [slX, own?_setO, own?_nestD, own?_delC, own?_delC1, own?_delC2, ne_lo', ne_hi, mem_nmN, vcb, ↓evSo_some, ↓reduceIte, reduceCtorEq, seval]
    repeat' first
        | (first
            | refine TR.p hP (by first | exact ck) (by repeat' first | exact trivial | (intro _; assumption) | apply And.intro) ?_
            | refine TR.gp hP rfl (fun _ => by first | exact ck) (fun _ => by repeat' first | exact trivial | (intro _; assumption) | apply And.intro) ?_
            | refine TR.pv hP rfl (by first | exact ck) trivial (by repeat' first | exact trivial | (intro _; assumption) | apply And.intro) ?_
           try simp only [own?_setO, own?_nestD, own?_delC, own?_delC1, own?_delC2, ne_lo', ne_hi, mem_nmN, vcb, ↓evSo_some, ↓reduceIte, reduceCtorEq, seval])
        | refine And.intro (fun h => ?_) (fun h => ?_)
        | refine And.intro (by first | omega | (simp only [maxLen, decide_eq_true_eq, decide_eq_false_iff_not] at *; omega)) ?_
        | (refine TR.aslO rfl rfl rfl rfl trivial (Nat.le_of_ble_eq_true rfl) ?_
           try simp only [own?_setO, own?_nestD, own?_delC, own?_delC1, own?_delC2, ne_lo', ne_hi, mem_nmN, vcb, ↓evSo_some, ↓reduceIte, reduceCtorEq, seval])
        | refine And.intro trivial ?_
        | refine And.intro rfl ?_
        | fail
    generalize hBs : withX l s.1 = B at hbl hbase hbper
    have hph : phR l ts ((d : Int) + 1) s = rfr ts B (kindT ts ((d : Int) + 1)) s := by rw [phR, hBs]
    rw [hph] at he
    try simp only [hBs]
    generalize hO : kindT ts ((d : Int) + 1) = O at he hkl
    clear ck cw
    try simp only [hO]
    refine vcC.loop (X := Nat × Sw) (fun x => roSt ts l ((d : Int) + 1) x.2 [(12, .d (slX B)), (13, .d (slK .i64 O)), (14, .d (.int .i64 x.1))] [] [])
      (fun x => x.1 ≤ O.length ∧ SwI l (K + x.1) 0 x.2 ∧ refT ts l = phs l ts (3 - (d + 1)) ((d : Int) + 1 + 1) (rfr ts B (O.drop x.1) x.2)) (fun x => O.length - x.1) (0, s) ⟨Nat.zero_le _, hI, he⟩
      (Wk.ro0 hfn rfl rfl (by simp only [roE, slT, slX, slK, own?_setO, own?_nestD, own?_delC, own?_delC1, own?_delC2, ne_lo', ne_hi, mem_nmN, List.cons_append, List.nil_append, enb, vcb, ↓evSo_some, ↓reduceIte, reduceCtorEq, seval]) (by simp only [OwnLeS, rowI, own?_setO, own?_nestD, own?_delC, own?_delC1, own?_delC2, ne_lo', ne_hi, mem_nmN, List.cons_append, List.nil_append, enb, vcb, ↓evSo_some, ↓reduceIte, reduceCtorEq, seval]) (by simp only [own?_setO, own?_nestD, own?_delC, own?_delC1, own?_delC2, ne_lo', ne_hi, mem_nmN, enb, vcb, ↓evSo_some, ↓reduceIte, reduceCtorEq, seval]) (fun j => by simp only [own?_setO, own?_nestD, own?_delC, own?_delC1, own?_delC2, ne_lo', ne_hi, mem_nmN, enb, vcb, ↓evSo_some, ↓reduceIte, reduceCtorEq, seval])) ?_
    clear he hsl hI
    rintro ⟨k, s⟩ ⟨hk, hI, he⟩
    simp only at hk hI he
    have hsl := hI.lg
    simp only [roSt, roE, slT, slX, slK, rowI, List.append_nil, List.cons_append, List.nil_append, own?_setO, own?_nestD, own?_delC, own?_delC1, own?_delC2, ne_lo', ne_hi, mem_nmN, vcb, ↓evSo_some, ↓reduceIte, reduceCtorEq, seval]
    refine ⟨fun h3 => ?_, fun h3 => ?_⟩
    · have hlt : k < O.length := by have := of_decide_eq_true h3; omega
      obtain ⟨q, hdq, hgq, hqm, -⟩ := drop_at hlt
      have hq := hkl.2 q hqm
      obtain ⟨iq, rfl⟩ : ∃ iq : Nat, q = (iq : Int) := ⟨q.toNat, by omega⟩
      have hit : iq < ts.length := by omega
      obtain ⟨t, -, hgt, htm, -⟩ := drop_at hit
      have hRt := hR t htm
      rw [hdq, rfr, Int.toNat_natCast, hgt] at he
      have ewk : IntKind.i64.wrap ((k : Int) + 1) = ((k + 1 : Nat) : Int) := wS (by omega)
      have cb := rTBears t B (by omega) hbper
      simp only [vT, cT, slX, slK] at cb
      obtain ⟨hb1, hb2, -, -⟩ := rd_bears hX hls hbase hRt
      simp only [hgq, hgt, own?_setO, own?_nestD, own?_delC, own?_delC1, own?_delC2, ne_lo', ne_hi, mem_nmN, Int.toNat_natCast, vcb, ↓evSo_some, ↓reduceIte, reduceCtorEq, seval]
      repeat' first
          | (first
              | refine TR.p hP (by first | exact cb) (by repeat' first | exact trivial | (intro _; assumption) | apply And.intro) ?_
              | refine TR.gp hP rfl (fun _ => by first | exact cb) (fun _ => by repeat' first | exact trivial | (intro _; assumption) | apply And.intro) ?_
              | refine TR.pv hP rfl (by first | exact cb) trivial (by repeat' first | exact trivial | (intro _; assumption) | apply And.intro) ?_
             try simp only [hgq, hgt, own?_setO, own?_nestD, own?_delC, own?_delC1, own?_delC2, ne_lo', ne_hi, mem_nmN, Int.toNat_natCast, vcb, ↓evSo_some, ↓reduceIte, reduceCtorEq, seval])
          | refine And.intro (fun h => ?_) (fun h => ?_)
          | refine And.intro (by first | omega | (simp only [maxLen, decide_eq_true_eq, decide_eq_false_iff_not] at *; omega)) ?_
          | (refine TR.aslO rfl rfl rfl rfl trivial (Nat.le_of_ble_eq_true rfl) ?_
             try simp only [hgq, hgt, own?_setO, own?_nestD, own?_delC, own?_delC1, own?_delC2, ne_lo', ne_hi, mem_nmN, Int.toNat_natCast, vcb, ↓evSo_some, ↓reduceIte, reduceCtorEq, seval])
          | refine And.intro trivial ?_
          | refine And.intro rfl ?_
          | fail
      generalize hb : bearsA t B = b at *
      refine vcC.loop (X := Nat × Sw) (fun x => roSt ts l ((d : Int) + 1) x.2 [(12, .d (slX B)), (13, .d (slK .i64 O)), (14, .d (.int .i64 k)), (15, .own 15 0), (16, .d (slK .i64 b)), (17, .d (.int .i64 x.1))] [(15, .fix (cT t))] [15])
        (fun x => x.1 ≤ b.length ∧ SwI l (K + k) x.1 x.2 ∧ swe t.id b s = swpR t.id b (b.length - x.1) x.1 x.2) (fun x => b.length - x.1) (0, s) ⟨Nat.zero_le _, hI, rfl⟩
        (Wk.ro0 hfn rfl rfl (by simp only [roE, slT, slX, slK, own?_setO, own?_nestD, own?_delC, own?_delC1, own?_delC2, ne_lo', ne_hi, mem_nmN, List.cons_append, List.nil_append, enb, vcb, ↓evSo_some, ↓reduceIte, reduceCtorEq, seval]) (by simp only [OwnLeS, rowI, cT, own?_setO, own?_nestD, own?_delC, own?_delC1, own?_delC2, ne_lo', ne_hi, mem_nmN, List.cons_append, List.nil_append, enb, vcb, ↓evSo_some, ↓reduceIte, reduceCtorEq, seval]) (by simp only [own?_setO, own?_nestD, own?_delC, own?_delC1, own?_delC2, ne_lo', ne_hi, mem_nmN, enb, vcb, ↓evSo_some, ↓reduceIte, reduceCtorEq, seval]) (fun j => by simp only [own?_setO, own?_nestD, own?_delC, own?_delC1, own?_delC2, ne_lo', ne_hi, mem_nmN, enb, vcb, ↓evSo_some, ↓reduceIte, reduceCtorEq, seval])) ?_
      rintro ⟨i, s1⟩ ⟨hi, hI1, he1⟩
      simp only at hi hI1 he1
      have hsl1 := hI1.lg
      have hla1 := hI1.la
      simp only [roSt, roE, slT, slX, slK, rowI, cT, List.cons_append, List.nil_append, own?_setO, own?_nestD, own?_delC, own?_delC1, own?_delC2, ne_lo', ne_hi, mem_nmN, vcb, ↓evSo_some, ↓reduceIte, reduceCtorEq, seval]
      refine ⟨fun h2 => ?_, fun h2 => ?_⟩
      · have hi2 : i < b.length := by have := of_decide_eq_true h2; omega
        have hil : i < l.length := by omega
        have hbi := hb2 i
        have ham := hI1.am i
        have hbd : (l.getD i default).amt ≤ 1000000000000000 := by
          have := lossX_iff.1 (hX (l.getD i default) (by rw [List.getD_eq_getElem?_getD, List.getElem?_eq_getElem hil]; exact List.getElem_mem hil))
          omega
        have ewi : IntKind.i64.wrap ((i : Int) + 1) = ((i + 1 : Nat) : Int) := wS (by omega)
        have ew : IntKind.i64.wrap (s1.1.getD i 0 - (min (b.getD i 0) (s1.1.getD i 0))) = s1.1.getD i 0 - (min (b.getD i 0) (s1.1.getD i 0)) := wI (by omega)
        have hI2 := hI1.step t.id (b := b) hil hbi
        rw [show b.length - i = (b.length - (i + 1)) + 1 by omega, swpR] at he1
        have hrow : ∀ q, q < s1.1.length → (if q = i then putD [.int .i64 (s1.1.getD i 0)] 0 [.int .i64 (s1.1.getD i 0 - (min (b.getD i 0) (s1.1.getD i 0)))] else [.int .i64 (s1.1.getD q 0)] : List D) =
            [.int .i64 ((s1.1.set i (s1.1.getD i 0 - (min (b.getD i 0) (s1.1.getD i 0)))).getD q 0)] := fun q hq => by
          rw [getD_set (by omega)]
          by_cases e : q = i
          · subst e; simp [putD]
          · rw [if_neg e, if_neg (fun h => e h.symm)]
        simp only [ew, own?_setO, own?_nestD, own?_delC, own?_delC1, own?_delC2, ne_lo', ne_hi, mem_nmN, vcb, ↓evSo_some, ↓reduceIte, reduceCtorEq, seval]
        repeat' first
            | refine And.intro (fun h => ?_) (fun h => ?_)
            | refine And.intro (by first | omega | (simp only [maxLen, decide_eq_true_eq, decide_eq_false_iff_not] at *; omega)) ?_
            | (refine TR.aslO rfl rfl rfl rfl trivial (Nat.le_of_ble_eq_true rfl) ?_
               try simp only [ew, own?_setO, own?_nestD, own?_delC, own?_delC1, own?_delC2, ne_lo', ne_hi, mem_nmN, vcb, ↓evSo_some, ↓reduceIte, reduceCtorEq, seval])
            | refine And.intro trivial ?_
            | refine And.intro rfl ?_
            | fail
        · have hm : 0 < (min (b.getD i 0) (s1.1.getD i 0)) := by have := of_decide_eq_true h; omega
          clear h
          have hil2 : i < s1.2.length := by omega
          have hgi : s1.2[i]? = some s1.2[i] := List.getElem?_eq_getElem hil2
          have hgd : s1.2.getD i [] = s1.2[i] := by rw [List.getD_eq_getElem?_getD, hgi]; rfl
          have hgl := hI1.gl i _ hgi
          rw [if_neg (Nat.lt_irrefl i)] at hgl
          have hsw : swpS t.id b i s1 = (s1.1.set i (s1.1.getD i 0 - (min (b.getD i 0) (s1.1.getD i 0))), s1.2.set i (s1.2[i] ++ [(t.id, (min (b.getD i 0) (s1.1.getD i 0)))])) := by rw [swpS, if_pos hm, hgd]
          rw [hsw] at he1 hI2
          generalize s1.2[i] = g at *
          have hnth := nestC_nth (dx := ((0, 0) : Int × Int)) (cells := cC) (K := 5000) (τ := 0) (sz := 2) (i := 0) hgi
          rw [Nat.zero_add] at hnth
          have hfin : ∀ (st : St), EnvLe (renE (Go.Bx.sw 108 (5000 + i)) st.env) (roE ts l ((d : Int) + 1) ++ [(12, .d (slX B)), (13, .d (slK .i64 O)), (14, .d (.int .i64 k)), (15, .own 15 0), (16, .d (slK .i64 b)), (17, .d (.int .i64 ((i + 1 : Nat) : Int)))]) →
              OwnLeS (Go.Bx.sw 108 (5000 + i)) st.own ([(27, rowI (s1.1.set i (s1.1.getD i 0 - (min (b.getD i 0) (s1.1.getD i 0)))))] ++ [(15, .fix (cT t))]) → own? st.own 44 = some (.lit 35 1 s1.2.length (putV (nCC s1.2) i [.osl 108])) →
              (∃ n F, own? st.own 108 = some (.row 37 2 n F) ∧ n = g.length + 1 ∧ ∀ q, q < g.length + 1 → F q = cC ((g ++ [(t.id, (min (b.getD i 0) (s1.1.getD i 0)))]).getD q (0, 0))) →
              (∀ j, j ≠ i → own? st.own (5000 + j) = own? (nOC s1.2) (5000 + j)) →
              Wk c st (roSt ts l ((d : Int) + 1) (s1.1.set i (s1.1.getD i 0 - (min (b.getD i 0) (s1.1.getD i 0))), s1.2.set i (g ++ [(t.id, (min (b.getD i 0) (s1.1.getD i 0)))])) [(12, .d (slX B)), (13, .d (slK .i64 O)), (14, .d (.int .i64 k)), (15, .own 15 0), (16, .d (slK .i64 b)), (17, .d (.int .i64 ((i + 1 : Nat) : Int)))] [(15, .fix (cT t))] [15]) := fun st q1 q2 q3 q4 q5 => by
            obtain ⟨n, F, q6, q7, q8⟩ := q4
            have := Wk.nestPush (c := c) (st := st) (dx := ((0, 0) : Int × Int)) (cells := cC) (K := 5000) (K' := 44) (τ := 0) (e' := 35) (e := 37) (sz := 2) (G := s1.2) 108 i (g ++ [(t.id, (min (b.getD i 0) (s1.1.getD i 0)))]) [] hfn (by omega) (by omega) (by omega) (by simp) (by simp) (N := [44, 27, 15]) rfl rfl q1 q2 hil2 (by simp) q3 ⟨n, F, q6, by simp; omega, fun q hq => q8 q (by simpa using hq)⟩ q5
            unfold roSt
            simp only [List.length_set]
            exact this
          by_cases hg0 : g.length ≤ 0
          · rw [if_pos hg0] at hnth
            have hgn : g = [] := List.eq_nil_of_length_eq_zero (by omega)
            subst hgn
            simp only [hnth, List.length_nil, own?_setO, own?_nestD, own?_delC, own?_delC1, own?_delC2, ne_lo', ne_hi, mem_nmN, vcb, ↓evSo_some, ↓reduceIte, reduceCtorEq, seval]
            repeat' first
                | refine And.intro (fun h => ?_) (fun h => ?_)
                | refine And.intro (by first | omega | (simp only [maxLen, decide_eq_true_eq, decide_eq_false_iff_not] at *; omega)) ?_
                | (refine TR.aslO rfl rfl rfl rfl trivial (Nat.le_of_ble_eq_true rfl) ?_
                   try simp only [hnth, own?_setO, own?_nestD, own?_delC, own?_delC1, own?_delC2, ne_lo', ne_hi, mem_nmN, vcb, ↓evSo_some, ↓reduceIte, reduceCtorEq, seval])
                | refine And.intro trivial ?_
                | refine And.intro rfl ?_
                | fail
            refine lopK.on (i + 1, (s1.1.set i (s1.1.getD i 0 - (min (b.getD i 0) (s1.1.getD i 0))), s1.2.set i ([] ++ [(t.id, (min (b.getD i 0) (s1.1.getD i 0)))]))) ⟨hi2, hI2, he1⟩ (by simp only; omega) ?_
            refine (hfin _ (by simp only [roE, slT, slX, slK, ewi, own?_setO, own?_nestD, own?_delC, own?_delC1, own?_delC2, ne_lo', ne_hi, mem_nmN, List.cons_append, List.nil_append, enb, vcb, ↓evSo_some, ↓reduceIte, reduceCtorEq, seval]) (by simp only [OwnLeS, rowI, cT, own?_setO, own?_nestD, own?_delC, own?_delC1, own?_delC2, ne_lo', ne_hi, mem_nmN, List.cons_append, List.nil_append, enb, vcb, ↓evSo_some, ↓reduceIte, reduceCtorEq, seval]; exact OLe.row (by simp) hrow) (by simp only [own?_setO, own?_nestD, own?_delC, own?_delC1, own?_delC2, ne_lo', ne_hi, mem_nmN, enb, vcb, ↓evSo_some, ↓reduceIte, reduceCtorEq, seval]) ⟨_, _, by simp only [own?_setO, own?_nestD, own?_delC, own?_delC1, own?_delC2, ne_lo', ne_hi, mem_nmN, enb, vcb, ↓evSo_some, ↓reduceIte, reduceCtorEq, seval]; rfl, by simp, fun q hq => ?_⟩ (fun j hj => ?_))
            · have e0 : q = 0 := by simp at hq; omega
              subst e0
              simp [litRow, cC]
            · have hji : (5000 + j = 5000 + i) = False := eq_false (by omega)
              simp only [hji, own?_setO, own?_nestD, own?_delC, own?_delC1, own?_delC2, ne_lo', ne_hi, mem_nmN, enb, vcb, ↓evSo_some, ↓reduceIte, reduceCtorEq, seval]
          · rw [if_neg hg0] at hnth
            have hrw := nC_at hgi (by omega)
            simp only [hnth, hrw, own?_setO, own?_nestD, own?_delC, own?_delC1, own?_delC2, ne_lo', ne_hi, mem_nmN, vcb, ↓evSo_some, ↓reduceIte, reduceCtorEq, seval]
            repeat' first
                | refine And.intro (fun h => ?_) (fun h => ?_)
                | refine And.intro (by first | omega | (simp only [maxLen, decide_eq_true_eq, decide_eq_false_iff_not] at *; omega)) ?_
                | (refine TR.aslO rfl rfl rfl rfl trivial (Nat.le_of_ble_eq_true rfl) ?_
                   try simp only [hnth, hrw, own?_setO, own?_nestD, own?_delC, own?_delC1, own?_delC2, ne_lo', ne_hi, mem_nmN, vcb, ↓evSo_some, ↓reduceIte, reduceCtorEq, seval])
                | refine And.intro trivial ?_
                | refine And.intro rfl ?_
                | fail
            refine ⟨by (simp [ownOk, meetL, hitL, inAnc, List.range, List.range.loop, ne_lo', ne_hi]; decide), ?_⟩
            refine lopK.on (i + 1, (s1.1.set i (s1.1.getD i 0 - (min (b.getD i 0) (s1.1.getD i 0))), s1.2.set i (g ++ [(t.id, (min (b.getD i 0) (s1.1.getD i 0)))]))) ⟨hi2, hI2, he1⟩ (by simp only; omega) ?_
            refine (hfin _ (by simp only [roE, slT, slX, slK, ewi, own?_setO, own?_nestD, own?_delC, own?_delC1, own?_delC2, ne_lo', ne_hi, mem_nmN, List.cons_append, List.nil_append, enb, vcb, ↓evSo_some, ↓reduceIte, reduceCtorEq, seval]) (by simp only [OwnLeS, rowI, cT, own?_setO, own?_nestD, own?_delC, own?_delC1, own?_delC2, ne_lo', ne_hi, mem_nmN, List.cons_append, List.nil_append, enb, vcb, ↓evSo_some, ↓reduceIte, reduceCtorEq, seval]; exact OLe.row (by simp) hrow) (by simp only [own?_setO, own?_nestD, own?_delC, own?_delC1, own?_delC2, ne_lo', ne_hi, mem_nmN, enb, vcb, ↓evSo_some, ↓reduceIte, reduceCtorEq, seval]) ⟨_, _, by simp only [own?_setO, own?_nestD, own?_delC, own?_delC1, own?_delC2, ne_lo', ne_hi, mem_nmN, enb, vcb, ↓evSo_some, ↓reduceIte, reduceCtorEq, seval]; rfl, by simp, fun q hq => ?_⟩ (fun j hj => ?_))
            · by_cases e : q < g.length
              · simp [e, cC, List.getElem?_append_left e]
              · have e2 : q = g.length := by omega
                subst e2
                simp [litRow, cC]
            · have hji : (5000 + j = 5000 + i) = False := eq_false (by omega)
              simp only [hji, own?_setO, own?_nestD, own?_delC, own?_delC1, own?_delC2, ne_lo', ne_hi, mem_nmN, enb, vcb, ↓evSo_some, ↓reduceIte, reduceCtorEq, seval]
        · have hm : ¬ 0 < (min (b.getD i 0) (s1.1.getD i 0)) := by have := of_decide_eq_false h; omega
          have hsw : swpS t.id b i s1 = (s1.1.set i (s1.1.getD i 0 - (min (b.getD i 0) (s1.1.getD i 0))), s1.2) := by rw [swpS, if_neg hm]
          rw [hsw] at he1 hI2
          refine lopK.on (i + 1, (s1.1.set i (s1.1.getD i 0 - (min (b.getD i 0) (s1.1.getD i 0))), s1.2)) ⟨hi2, hI2, he1⟩ (by simp only; omega) ?_
          exact (Wk.ro0 (ts := ts) (l := l) (kd := (d : Int) + 1) (s := (s1.1.set i (s1.1.getD i 0 - (min (b.getD i 0) (s1.1.getD i 0))), s1.2)) (ex := [(12, .d (slX B)), (13, .d (slK .i64 O)), (14, .d (.int .i64 k)), (15, .own 15 0), (16, .d (slK .i64 b)), (17, .d (.int .i64 ((i + 1 : Nat) : Int)))]) (ox := [(15, .fix (cT t))]) (nx := [15]) hfn rfl rfl (by simp only [roE, slT, slX, slK, ewi, own?_setO, own?_nestD, own?_delC, own?_delC1, own?_delC2, ne_lo', ne_hi, mem_nmN, List.cons_append, List.nil_append, enb, vcb, ↓evSo_some, ↓reduceIte, reduceCtorEq, seval]) (by simp only [OwnLeS, rowI, cT, own?_setO, own?_nestD, own?_delC, own?_delC1, own?_delC2, ne_lo', ne_hi, mem_nmN, List.cons_append, List.nil_append, enb, vcb, ↓evSo_some, ↓reduceIte, reduceCtorEq, seval]; exact OLe.row (by simp) hrow) (by simp only [own?_setO, own?_nestD, own?_delC, own?_delC1, own?_delC2, ne_lo', ne_hi, mem_nmN, enb, vcb, ↓evSo_some, ↓reduceIte, reduceCtorEq, seval]) (fun j => by simp only [own?_setO, own?_nestD, own?_delC, own?_delC1, own?_delC2, ne_lo', ne_hi, mem_nmN, enb, vcb, ↓evSo_some, ↓reduceIte, reduceCtorEq, seval]))
      · have hib : i = b.length := by have := of_decide_eq_false h2; omega
        rw [hib, Nat.sub_self, swpR] at he1
        rw [he1] at he
        subst hib
        rw [hb1] at hI1
        have hI2 := hI1.next
        repeat' first
            | refine And.intro (fun h => ?_) (fun h => ?_)
            | refine And.intro (by first | omega | (simp only [maxLen, decide_eq_true_eq, decide_eq_false_iff_not] at *; omega)) ?_
            | (refine TR.aslO rfl rfl rfl rfl trivial (Nat.le_of_ble_eq_true rfl) ?_
               try simp only [own?_setO, own?_nestD, own?_delC, own?_delC1, own?_delC2, ne_lo', ne_hi, mem_nmN, vcb, ↓evSo_some, ↓reduceIte, reduceCtorEq, seval])
            | refine And.intro trivial ?_
            | refine And.intro rfl ?_
            | fail
        refine lopK.on (k + 1, s1) ⟨hlt, hI2, by first | exact he | (rw [show 2 - d = 3 - (d + 1) by omega]; exact he)⟩ (by simp only; omega) ?_
        exact Wk.ro0 (ts := ts) (l := l) (kd := (d : Int) + 1) (s := s1) (ex := [(12, .d (slX B)), (13, .d (slK .i64 O)), (14, .d (.int .i64 ((k + 1 : Nat) : Int)))]) (ox := []) (nx := []) hfn rfl rfl (by simp only [roE, slT, slX, slK, ewk, own?_setO, own?_nestD, own?_delC, own?_delC1, own?_delC2, ne_lo', ne_hi, mem_nmN, List.cons_append, List.nil_append, List.append_nil, enb, vcb, ↓evSo_some, ↓reduceIte, reduceCtorEq, seval]) (by simp only [OwnLeS, rowI, own?_setO, own?_nestD, own?_delC, own?_delC1, own?_delC2, ne_lo', ne_hi, mem_nmN, List.cons_append, List.nil_append, List.append_nil, enb, vcb, ↓evSo_some, ↓reduceIte, reduceCtorEq, seval]) (by simp only [own?_setO, own?_nestD, own?_delC, own?_delC1, own?_delC2, ne_lo', ne_hi, mem_nmN, enb, vcb, ↓evSo_some, ↓reduceIte, reduceCtorEq, seval]) (fun j => by simp only [own?_setO, own?_nestD, own?_delC, own?_delC1, own?_delC2, ne_lo', ne_hi, mem_nmN, enb, vcb, ↓evSo_some, ↓reduceIte, reduceCtorEq, seval])
    · have hkl2 : k = O.length := by have := of_decide_eq_false h3; omega
      rw [hkl2, List.drop_length, rfr] at he
      repeat' first
          | refine And.intro (fun h => ?_) (fun h => ?_)
          | refine And.intro (by first | omega | (simp only [maxLen, decide_eq_true_eq, decide_eq_false_iff_not] at *; omega)) ?_
          | (refine TR.aslO rfl rfl rfl rfl trivial (Nat.le_of_ble_eq_true rfl) ?_
             try simp only [own?_setO, own?_nestD, own?_delC, own?_delC1, own?_delC2, ne_lo', ne_hi, mem_nmN, vcb, ↓evSo_some, ↓reduceIte, reduceCtorEq, seval])
          | refine And.intro trivial ?_
          | refine And.intro rfl ?_
          | fail
      refine lopK.on (d + 1, s) ⟨by simp only; omega, ⟨K + k, by simp only; omega, hI⟩, ?_⟩ (by simp only; omega) ?_
      · simp only
        rw [he]; congr 1
      · exact Wk.ro0 (ts := ts) (l := l) (kd := (((d + 1 : Nat) : Int) + 1)) (s := s) (ex := []) (ox := []) (nx := []) hfn rfl rfl (by simp only [roE, slT, slX, slK, ewd, own?_setO, own?_nestD, own?_delC, own?_delC1, own?_delC2, ne_lo', ne_hi, mem_nmN, List.cons_append, List.nil_append, List.append_nil, enb, vcb, ↓evSo_some, ↓reduceIte, reduceCtorEq, seval]) (by simp only [OwnLeS, rowI, own?_setO, own?_nestD, own?_delC, own?_delC1, own?_delC2, ne_lo', ne_hi, mem_nmN, List.cons_append, List.nil_append, List.append_nil, enb, vcb, ↓evSo_some, ↓reduceIte, reduceCtorEq, seval]) (by simp only [own?_setO, own?_nestD, own?_delC, own?_delC1, own?_delC2, ne_lo', ne_hi, mem_nmN, enb, vcb, ↓evSo_some, ↓reduceIte, reduceCtorEq, seval]) (fun j => by simp only [own?_setO, own?_nestD, own?_delC, own?_delC1, own?_delC2, ne_lo', ne_hi, mem_nmN, enb, vcb, ↓evSo_some, ↓reduceIte, reduceCtorEq, seval])
  · have hd : d = 3 := by have := of_decide_eq_false h1; omega
    subst hd
    rw [Nat.sub_self, phs] at he
    repeat' first
        | refine And.intro (fun h => ?_) (fun h => ?_)
        | refine And.intro (by first | omega | (simp only [maxLen, decide_eq_true_eq, decide_eq_false_iff_not] at *; omega)) ?_
        | (refine TR.aslO rfl rfl rfl rfl trivial (Nat.le_of_ble_eq_true rfl) ?_
           try simp only [own?_setO, own?_nestD, own?_delC, own?_delC1, own?_delC2, ne_lo', ne_hi, mem_nmN, vcb, ↓evSo_some, ↓reduceIte, reduceCtorEq, seval])
        | refine And.intro trivial ?_
        | refine And.intro rfl ?_
        | fail
    refine RetK.mk _ ((Wk.nestPub (dx := ((0, 0) : Int × Int)) (cells := cC) (K' := 44) (K := 5000) (τ := 0) (e' := 35) (e := 37) (sz := 2) (G := s.2) (own' := [(44, .row 35 1 s.2.length (nestD (0, 0) cC 2 s.2)), (27, .row 3 1 s.1.length (fun j => [.int .i64 (s.1.getD j 0)]))]) (by simp only [vcb, ↓evSo_some, ↓reduceIte, reduceCtorEq, seval])
        (fun i g hg1 hg2 => by simp only [ne_lo', nC_at hg1 hg2, vcb, ↓evSo_some, ↓reduceIte, reduceCtorEq, seval]) (by simp [keysO]) (fun k o hm => by
          simp only [List.mem_cons, List.not_mem_nil, or_false, Prod.mk.injEq] at hm
          rcases hm with ⟨rfl, rfl⟩ | ⟨rfl, rfl⟩
          · exact .inl ⟨rfl, rfl⟩
          · exact .inr ⟨by omega, by simp only [vcb, ↓evSo_some, ↓reduceIte, reduceCtorEq, seval]⟩) (fun i hi => by simp [keysO]; omega)).trans ((Wk.pub 44 rfl).trans (Wk.pub 27 rfl))) (by simp only [rs12, rsb, vcb, ↓evSo_some, ↓reduceIte, reduceCtorEq, seval]) ?_ trivial
    simp only [rs12, rsb, vcb, ↓evSo_some, ↓reduceIte, reduceCtorEq, seval]
    rw [hof, he]
    exact VLe.tups ⟨VLe.refl _, VLe.refl _, VLe.refl _, trivial⟩
end Go.Proofs.Ytgpckelpmincmaa
end
section
set_option linter.unusedSimpArgs false
set_option linter.unusedVariables false
namespace Go.Proofs.Ytgpckelpmincmaa
set_option linter.unusedSimpArgs false
set_option linter.unusedVariables false
open Go.Bx
set_option maxRecDepth 10000
theorem rOrder (ts : List Tr) (ht : ts.length ≤ 1000) : Ctr Try.prog 16 [.d (slT ts)] [] (.d (slK .i64 (orderT ts))) [] [] := by
  have k1 := (rKind ts 1 ht).sw 1000 901
  have k2 := rKindD ts 2 ht
  have k3 := rKindD ts 3 ht
  simp only [slT, rowI, vcb, ↓evSo_some, ↓reduceIte, reduceCtorEq, seval] at k1
  simp only [slT] at k2 k3
  have l1 := (kindT_len ts 1).1
  have l2 := (kindT_len ts 2).1
  have l3 := (kindT_len ts 3).1
  have he := order_eq ts
  have hl : (orderT ts).length = (kindT ts 1).length + (kindT ts 2).length + (kindT ts 3).length := by rw [he, List.length_append, List.length_append]
  refine ctr_pure Try.func16 ok16 rfl cc16 cr16 Try.ntmps16 (by simp) rfl rfl ?_; intro c hP hfn; simp only [kc16, slT, vcb, ↓evSo_some, ↓reduceIte, reduceCtorEq, seval]
  refine TR.call [] [(901, rowI (kindT ts 1))] _ [901] (by rw [hP]; exact k1) (by repeat' first | exact trivial | (intro _; assumption) | apply And.intro) (by simp) (by simp [keysO]) (by simp) ?_
  simp only [rowI, vcb, ↓evSo_some, ↓reduceIte, reduceCtorEq, seval]
  repeat' first
      | (first
          | refine TR.p hP (by first | exact k2 | exact k3) (by repeat' first | exact trivial | (intro _; assumption) | apply And.intro) ?_
          | refine TR.gp hP rfl (fun _ => by first | exact k2 | exact k3) (fun _ => by repeat' first | exact trivial | (intro _; assumption) | apply And.intro) ?_
          | refine TR.pv hP rfl (by first | exact k2 | exact k3) trivial (by repeat' first | exact trivial | (intro _; assumption) | apply And.intro) ?_
         try simp only [vcb, ↓evSo_some, ↓reduceIte, reduceCtorEq, seval])
      | refine And.intro (fun h => ?_) (fun h => ?_)
      | refine And.intro (by first | omega | (simp only [maxLen, decide_eq_true_eq, decide_eq_false_iff_not] at *; omega)) ?_
      | (refine TR.aslO rfl rfl rfl rfl trivial (Nat.le_of_ble_eq_true rfl) ?_
         try simp only [vcb, ↓evSo_some, ↓reduceIte, reduceCtorEq, seval])
      | refine And.intro trivial ?_
      | refine And.intro rfl ?_
      | fail
  refine RetK.mk _ (Wk.pub 10 rfl) (by simp only [rs16, rsb, vcb, ↓evSo_some, ↓reduceIte, reduceCtorEq, seval]) ?_ trivial
  simp only [rs16, rsb, vcb, ↓evSo_some, ↓reduceIte, reduceCtorEq, seval]
  refine VLe.sl (by rw [hl]) (fun _ => rfl) id fun i hi => ?_
  rw [he]
  simp only [List.getD_eq_getElem?_getD]
  by_cases h1 : i < (kindT ts 1).length
  · rw [if_pos (by omega), if_pos h1, List.append_assoc, List.getElem?_append_left h1]
  · by_cases h2 : i < (kindT ts 1).length + (kindT ts 2).length
    · rw [if_pos h2, if_neg h1, List.append_assoc, List.getElem?_append_right (by omega), List.getElem?_append_left (by omega)]
    · rw [if_neg h2, List.getElem?_append_right (by simp; omega), List.length_append]
theorem twr_kind {l : List Ls} {ts : List Tr} {kd : Int} {base : List Ls} : ∀ (o : List Int) (s : Sw), (∀ k, k ∈ o → (ts.getD k.toNat default).kind = kd) → ∀ p, twr l ts (o ++ p) s base kd = twr l ts p (rfr ts base o s) base kd
  | [], _, _, _ => rfl
  | k :: r, s, h, p => by
    have hk := h k List.mem_cons_self
    rw [List.cons_append, twr, rfr, hk]
    simp only [ne_eq, not_true_eq_false, if_false]
    exact twr_kind r _ (fun q hq => h q (List.mem_cons_of_mem _ hq)) p
theorem twr_phase {l : List Ls} {ts : List Tr} {kd kd0 : Int} {rd : List Ls} (hne : kd ≠ kd0) : ∀ (o : List Int) (s : Sw), (∀ k, k ∈ o → (ts.getD k.toNat default).kind = kd) → ∀ p,
    (o = [] ∧ twr l ts (o ++ p) s rd kd0 = twr l ts p (rfr ts (withX l s.1) o s) rd kd0) ∨ (o ≠ [] ∧ twr l ts (o ++ p) s rd kd0 = twr l ts p (rfr ts (withX l s.1) o s) (withX l s.1) kd)
  | [], s, _, p => .inl ⟨rfl, rfl⟩
  | k :: r, s, h, p => by
    have hk := h k List.mem_cons_self
    refine .inr ⟨by simp, ?_⟩
    rw [List.cons_append, twr, rfr, hk]
    simp only [hne, ne_eq, not_false_eq_true, if_true]
    exact twr_kind r _ (fun q hq => h q (List.mem_cons_of_mem _ hq)) p
theorem kind_mem {ts : List Tr} {kd : Int} (hkd : kd = 1 ∨ kd = 2 ∨ kd = 3) : ∀ k, k ∈ kindT ts kd → (ts.getD k.toNat default).kind = kd := by
  intro k hk
  have h := kindT_ok (ts := ts) hkd
  have h1 : plA ts kd k ∈ (plsT 0 (ts.take ts.length)).filter (fun p => p.k == kd) := h.perm.mem_iff.1 (List.mem_map.2 ⟨k, hk, rfl⟩)
  rw [List.take_length] at h1
  have h2 := plsT_at (List.mem_filter.1 h1).1
  exact h2.2.1.symm
theorem tower_ref (ts : List Tr) (l : List Ls) : towerT ts l = refT ts l := by
  unfold towerT refT
  rw [order_eq, List.append_assoc, phs, phs, phs, phs]
  have w : withX l (sw0 l).1 = l := with_self l
  have e1 : phR l ts 1 (sw0 l) = rfr ts l (kindT ts 1) (sw0 l) := by rw [phR, w]
  rw [twr_kind (kindT ts 1) (sw0 l) (kind_mem (.inl rfl)), ← e1]
  generalize phR l ts 1 (sw0 l) = s1
  show _ = phR l ts 3 (phR l ts 2 s1)
  have h3 : ∀ (s2 : Sw) (rd : List Ls) (k : Int), k ≠ 3 → twr l ts (kindT ts 3) s2 rd k = phR l ts 3 s2 := fun s2 rd k hk => by
    have := twr_phase (l := l) (ts := ts) (kd := 3) (kd0 := k) (rd := rd) (fun e => hk e.symm) (kindT ts 3) s2 (kind_mem (.inr (.inr rfl))) []
    simp only [List.append_nil] at this
    rcases this with ⟨-, h⟩ | ⟨-, h⟩ <;> rw [h] <;> rfl
  rcases twr_phase (l := l) (ts := ts) (kd := 2) (kd0 := 1) (rd := l) (by decide) (kindT ts 2) s1 (kind_mem (.inr (.inl rfl))) (kindT ts 3) with ⟨-, h⟩ | ⟨-, h⟩
  · rw [h, h3 _ _ _ (by decide)]; rfl
  · rw [h, h3 _ _ _ (by decide)]; rfl
theorem rof_eq (ts : List Tr) (l : List Ls) : rofT ts l = ofT ts l := by unfold rofT ofT; rw [tower_ref]
end Go.Proofs.Ytgpckelpmincmaa
end
section
set_option linter.unusedSimpArgs false
set_option linter.unusedVariables false
namespace Go.Proofs.Ytgpckelpmincmaa
set_option linter.unusedSimpArgs false
set_option linter.unusedVariables false
open Go.Bx
set_option maxRecDepth 10000
def slC (l : List (Int × Int)) : D := .sl false 2 l.length (fun i => cC (l.getD i (0, 0)))
def gC (G : List (List (Int × Int))) : D := .sl false 1 G.length (nestD (0, 0) cC 2 G)
def rowC (l : List (Int × Int)) : Own := .row 37 2 l.length (fun i => cC (l.getD i (0, 0)))
theorem sGrow (n : Nat) (hn : n ≤ 1000000000000) : Ctr Try.prog 57 [.d (.sl true 0 0 fun _ => []), .d (.int .i64 (n : Int))] [] (.osl 903) [(903, rowC [])] [903] := by
  refine ctr_own Try.func57 ok57 rfl cc57 cr57 Try.ntmps57 (by simp) rfl ?_
  intro c hP hfn
  have e1 : IntKind.i64.wrap ((0 : Int) - 0) = 0 := wI (by omega)
  have e0 : IntKind.i64.wrap 0 = 0 := wI (by omega)
  have e2 : IntKind.i64.wrap ((n : Int) - 0) = (n : Int) := (wI (by omega)).trans (by omega)
  simp only [kc57, namesL, V.names, ownNames, e0, e1, e2, vcb, ↓evSo_some, ↓reduceIte, reduceCtorEq, seval]
  repeat' first
      | refine And.intro (fun h => ?_) (fun h => ?_)
      | refine And.intro (by first | omega | (simp only [maxLen, decide_eq_true_eq, decide_eq_false_iff_not] at *; omega)) ?_
      | (refine TR.aslO rfl rfl rfl rfl trivial (Nat.le_of_ble_eq_true rfl) ?_
         try simp only [e0, e1, e2, vcb, ↓evSo_some, ↓reduceIte, reduceCtorEq, seval])
      | refine And.intro trivial ?_
      | refine And.intro rfl ?_
      | fail
  · exfalso; have := of_decide_eq_true h; omega
  · exact RetK.mk _ (Wk.shr 22 903 0 rfl (Nat.zero_le _) (by simp)) (by simp only [rs57, rsb, vcb, ↓evSo_some, ↓reduceIte, reduceCtorEq, seval]) (by simp only [rs57, rsb, vcb, ↓evSo_some, ↓reduceIte, reduceCtorEq, seval, enb, vcb, ↓evSo_some, ↓reduceIte, reduceCtorEq, seval]) (by simp only [rowC, enb, vcb, ↓evSo_some, ↓reduceIte, reduceCtorEq, seval]; exact OLe.row rfl (fun i hi => absurd hi (Nat.not_lt_zero i)))
  · have h0 := of_decide_eq_false h
    exact RetK.mk _ (Wk.row0 (s := 4) (k := 903) (e := 37) (sz := 2) (f' := fun i => cC (([] : List (Int × Int)).getD i (0, 0))) rfl rfl (by simp)) (by simp only [rs57, rsb, vcb, ↓evSo_some, ↓reduceIte, reduceCtorEq, seval]) (by simp only [rs57, rsb, vcb, ↓evSo_some, ↓reduceIte, reduceCtorEq, seval, enb, vcb, ↓evSo_some, ↓reduceIte, reduceCtorEq, seval]) (by simp only [rowC, enb, vcb, ↓evSo_some, ↓reduceIte, reduceCtorEq, seval])
def sumC (id : Int) : Int → List (Int × Int) → Int
  | a, [] => a
  | a, p :: r => sumC id (if p.1 = id then IntKind.i64.wrap (a + p.2) else a) r
theorem sumC_app (id : Int) : ∀ (l r : List (Int × Int)) (a : Int), sumC id a (l ++ r) = sumC id (sumC id a l) r
  | [], _, _ => rfl
  | _ :: l, r, a => by simp only [List.cons_append, sumC]; exact sumC_app id l r _
def sumsT (ts : List Tr) (G : List (List (Int × Int))) : List Int := ts.map fun t => sumC t.id 0 G.flatten
theorem sumsT_cons (t : Tr) (ts : List Tr) (G : List (List (Int × Int))) : sumsT (t :: ts) G = sumC t.id 0 G.flatten :: sumsT ts G := rfl
theorem sumsT_nil (G : List (List (Int × Int))) : sumsT [] G = [] := rfl
theorem flat_take {G : List (List (Int × Int))} {k : Nat} {g : List (Int × Int)} (h : G[k]? = some g) : (G.take (k + 1)).flatten = (G.take k).flatten ++ g := by
  rw [List.take_add_one, h]; simp
theorem flat_le (G : List (List (Int × Int))) (k : Nat) : (G.take k).flatten.length ≤ G.flatten.length := by
  conv => rhs; rw [← List.take_append_drop k G, List.flatten_append, List.length_append]
  omega
set_option maxHeartbeats 2000000 in
theorem sConcat (G : List (List (Int × Int))) (hG : G.length ≤ 1000000) (hF : G.flatten.length ≤ 1000000000) : Ctr Try.prog 33 [.d (gC G)] [] (.d (slC G.flatten)) [] [] := by
  refine ctr_pure Try.func33 ok33 rfl cc33 cr33 Try.ntmps33 (by simp) rfl rfl ?_; intro c hP hfn; simp only [kc33, gC, vcb, ↓evSo_some, ↓reduceIte, reduceCtorEq, seval]
  refine vcC.loop (X := Nat) (fun k => ⟨[(0, .d (gC G)), (3, .d (.int .i64 (G.take k).flatten.length)), (9, .d (gC G)), (10, .d (.int .i64 G.length)), (11, .d (.int .i64 k))], [], []⟩)
    (fun k => k ≤ G.length) (fun k => G.length - k) 0 (Nat.zero_le _) (Wk.of _ hfn rfl (by simp only [gC, List.take_zero, List.flatten_nil, enb, vcb, ↓evSo_some, ↓reduceIte, reduceCtorEq, seval]) (by simp only [enb, vcb, ↓evSo_some, ↓reduceIte, reduceCtorEq, seval])) ?_
  rintro k hk
  have hle := flat_le G k
  simp only [gC, vcb, ↓evSo_some, ↓reduceIte, reduceCtorEq, seval]
  refine ⟨fun h1 => ?_, fun h1 => ?_⟩
  · have hlt : k < G.length := by have := of_decide_eq_true h1; omega
    obtain ⟨g, hd, hg, hgm, hat⟩ := drop_at hlt
    have hfl := flat_take hat
    have hle2 := flat_le G (k + 1)
    have hlen : ((G.take (k + 1)).flatten.length : Int) = (G.take k).flatten.length + g.length := by rw [hfl, List.length_append]; omega
    have ew : IntKind.i64.wrap (((G.take k).flatten.length : Int) + (g.length : Int)) = ((G.take (k + 1)).flatten.length : Int) := by rw [hlen]; exact wI (by omega)
    simp only [nestD, hg, ew, vcb, ↓evSo_some, ↓reduceIte, reduceCtorEq, seval]
    repeat' first
        | refine And.intro (fun h => ?_) (fun h => ?_)
        | refine And.intro (by first | omega | (simp only [maxLen, decide_eq_true_eq, decide_eq_false_iff_not] at *; omega)) ?_
        | (refine TR.aslO rfl rfl rfl rfl trivial (Nat.le_of_ble_eq_true rfl) ?_
           try simp only [nestD, hg, ew, vcb, ↓evSo_some, ↓reduceIte, reduceCtorEq, seval])
        | refine And.intro trivial ?_
        | refine And.intro rfl ?_
        | fail
    all_goals first
      | (exfalso; have := of_decide_eq_true h; omega)
      | exact lopK.on (k + 1) hlt (by omega) (Wk.of _ hfn rfl (by simp only [gC, enb, vcb, ↓evSo_some, ↓reduceIte, reduceCtorEq, seval]; exact wS (by omega)) (by simp only [enb, vcb, ↓evSo_some, ↓reduceIte, reduceCtorEq, seval]))
  · have hkl : k = G.length := by have := of_decide_eq_false h1; omega
    subst hkl
    rw [List.take_length]
    have cg := sGrow G.flatten.length (by omega)
    simp only [rowC, vcb, ↓evSo_some, ↓reduceIte, reduceCtorEq, seval] at cg
    refine TR.call [] [(903, rowC [])] _ [903] (by rw [hP]; exact cg) (by repeat' first | exact trivial | (intro _; assumption) | apply And.intro) (by simp) (by simp [keysO]) (by simp) ?_
    simp only [vcb, ↓evSo_some, ↓reduceIte, reduceCtorEq, seval]
    refine vcC.loop (X := Nat) (fun k => ⟨[(6, .osl 903), (25, .d (gC G)), (26, .d (.int .i64 G.length)), (27, .d (.int .i64 k))], [(903, rowC (G.take k).flatten)], [903]⟩)
      (fun k => k ≤ G.length) (fun k => G.length - k) 0 (Nat.zero_le _) (Wk.of _ hfn rfl (by simp only [gC, enb, vcb, ↓evSo_some, ↓reduceIte, reduceCtorEq, seval]) (by simp only [rowC, List.take_zero, List.flatten_nil, enb, vcb, ↓evSo_some, ↓reduceIte, reduceCtorEq, seval])) ?_
    rintro k hk
    have hle := flat_le G k
    simp only [gC, rowC, vcb, ↓evSo_some, ↓reduceIte, reduceCtorEq, seval]
    refine ⟨fun h1 => ?_, fun h1 => ?_⟩
    · have hlt : k < G.length := by have := of_decide_eq_true h1; omega
      obtain ⟨g, hd, hg, hgm, hat⟩ := drop_at hlt
      have hfl := flat_take hat
      have hle2 := flat_le G (k + 1)
      have hlen : (G.take (k + 1)).flatten.length = (G.take k).flatten.length + g.length := by rw [hfl, List.length_append]
      have hbytes : ((G.take k).flatten.length + g.length) * 16 ≤ 140737488355328 := by omega
      have hmx : (G.take k).flatten.length + g.length ≤ maxLen := by simp only [maxLen]; omega
      simp only [nestD, hg, vcb, ↓evSo_some, ↓reduceIte, reduceCtorEq, seval]
      repeat' first
          | refine And.intro (fun h => ?_) (fun h => ?_)
          | refine And.intro (by first | omega | (simp only [maxLen, decide_eq_true_eq, decide_eq_false_iff_not] at *; omega)) ?_
          | (refine TR.aslO rfl rfl rfl rfl trivial (Nat.le_of_ble_eq_true rfl) ?_
             try simp only [nestD, hg, vcb, ↓evSo_some, ↓reduceIte, reduceCtorEq, seval])
          | refine And.intro trivial ?_
          | refine And.intro rfl ?_
          | fail
      exact lopK.on (k + 1) hlt (by omega) ((Wk.sw 33 903 _ hfn (by simp) (by simp)).trans (Wk.of _ hfn rfl (by simp only [gC, enb, vcb, ↓evSo_some, ↓reduceIte, reduceCtorEq, seval]; exact wS (by omega)) (by simp only [rowC, hfl, enb, vcb, ↓evSo_some, ↓reduceIte, reduceCtorEq, seval]; exact OLe.appL cC rfl (fun i hi => by rw [if_pos hi]) (fun i hi => by rw [if_neg (by omega), Nat.add_sub_cancel_left]))))
    · have hkl : k = G.length := by have := of_decide_eq_false h1; omega
      subst hkl
      rw [List.take_length]
      repeat' first
          | refine And.intro (fun h => ?_) (fun h => ?_)
          | refine And.intro (by first | omega | (simp only [maxLen, decide_eq_true_eq, decide_eq_false_iff_not] at *; omega)) ?_
          | (refine TR.aslO rfl rfl rfl rfl trivial (Nat.le_of_ble_eq_true rfl) ?_
             try simp only [vcb, ↓evSo_some, ↓reduceIte, reduceCtorEq, seval])
          | refine And.intro trivial ?_
          | refine And.intro rfl ?_
          | fail
      refine RetK.mk _ (Wk.pub 903 rfl) (by simp only [rs33, rsb, vcb, ↓evSo_some, ↓reduceIte, reduceCtorEq, seval]) ?_ trivial
      simp only [rs33, rsb, vcb, ↓evSo_some, ↓reduceIte, reduceCtorEq, seval, slC, enb, vcb, ↓evSo_some, ↓reduceIte, reduceCtorEq, seval]
set_option maxHeartbeats 2000000 in
theorem sSums (ts : List Tr) (G : List (List (Int × Int))) (ht : ts.length ≤ 1000000) (hG : G.length ≤ 1000000) (hF : G.flatten.length ≤ 1000000000) : Ctr Try.prog 17 [.d (slT ts), .d (gC G)] [] (.d (slK .i64 (sumsT ts G))) [] [] := by
  have cc := sConcat G hG hF
  simp only [gC, slC] at cc
  refine ctr_pure Try.func17 ok17 rfl cc17 cr17 Try.ntmps17 (by simp) rfl rfl ?_; intro c hP hfn; simp only [kc17, slT, gC, vcb, ↓evSo_some, ↓reduceIte, reduceCtorEq, seval]
  repeat' first
      | refine And.intro (fun h => ?_) (fun h => ?_)
      | refine And.intro (by first | omega | (simp only [maxLen, decide_eq_true_eq, decide_eq_false_iff_not] at *; omega)) ?_
      | (refine TR.aslO rfl rfl rfl rfl trivial (Nat.le_of_ble_eq_true rfl) ?_
         try simp only [vcb, ↓evSo_some, ↓reduceIte, reduceCtorEq, seval])
      | refine And.intro trivial ?_
      | refine And.intro rfl ?_
      | fail
  refine vcC.loop (X := List Int) (fun x => ⟨[(1, .d (gC G)), (5, .osl 12), (13, .d (slT ts)), (14, .d (.int .i64 ts.length)), (15, .d (.int .i64 x.length))], [(12, .row 3 1 ts.length (fun i => [.int .i64 (x.getD i 0)]))], [12]⟩)
    (fun x => x.length ≤ ts.length ∧ sumsT ts G = x ++ sumsT (ts.drop x.length) G) (fun x => ts.length - x.length) [] ⟨Nat.zero_le _, rfl⟩ (Wk.of _ hfn rfl (by simp only [slT, gC, enb, vcb, ↓evSo_some, ↓reduceIte, reduceCtorEq, seval]) (by simp only [enb, vcb, ↓evSo_some, ↓reduceIte, reduceCtorEq, seval]; exact OLe.row rfl fun i _ => by simp)) ?_
  rintro dn ⟨hk, he⟩
  simp only [slT, gC, vcb, ↓evSo_some, ↓reduceIte, reduceCtorEq, seval]
  refine ⟨fun h1 => ?_, fun h1 => ?_⟩
  · have hlt : dn.length < ts.length := by have := of_decide_eq_true h1; omega
    obtain ⟨t, hd, hg, htm, -⟩ := drop_at hlt
    rw [hd, sumsT_cons] at he
    simp only [hg, vcb, ↓evSo_some, ↓reduceIte, reduceCtorEq, seval]
    repeat' first
        | (first
            | refine TR.p hP (by first | exact cc) (by repeat' first | exact trivial | (intro _; assumption) | apply And.intro) ?_
            | refine TR.gp hP rfl (fun _ => by first | exact cc) (fun _ => by repeat' first | exact trivial | (intro _; assumption) | apply And.intro) ?_
            | refine TR.pv hP rfl (by first | exact cc) trivial (by repeat' first | exact trivial | (intro _; assumption) | apply And.intro) ?_
           try simp only [hg, vcb, ↓evSo_some, ↓reduceIte, reduceCtorEq, seval])
        | refine And.intro (fun h => ?_) (fun h => ?_)
        | refine And.intro (by first | omega | (simp only [maxLen, decide_eq_true_eq, decide_eq_false_iff_not] at *; omega)) ?_
        | (refine TR.aslO rfl rfl rfl rfl trivial (Nat.le_of_ble_eq_true rfl) ?_
           try simp only [hg, vcb, ↓evSo_some, ↓reduceIte, reduceCtorEq, seval])
        | refine And.intro trivial ?_
        | refine And.intro rfl ?_
        | fail
    generalize G.flatten = F at *
    refine vcC.loop (X := Nat) (fun k => ⟨[(1, .d (gC G)), (5, .osl 12), (6, .d (.int .i64 dn.length)), (7, .own 7 0), (13, .d (slT ts)), (14, .d (.int .i64 ts.length)), (15, .d (.int .i64 dn.length)), (21, .d (slC F)), (22, .d (.int .i64 F.length)), (23, .d (.int .i64 k))],
        [(12, .row 3 1 ts.length (fun i => [.int .i64 ((dn ++ [sumC t.id 0 (F.take k)]).getD i 0)])), (7, .fix (cT t))], [12, 7]⟩)
      (fun k => k ≤ F.length) (fun k => F.length - k) 0 (Nat.zero_le _) (Wk.of _ hfn rfl (by simp only [slT, gC, slC, enb, vcb, ↓evSo_some, ↓reduceIte, reduceCtorEq, seval]) ?_) ?_
    · simp only [cT, enb, vcb, ↓evSo_some, ↓reduceIte, reduceCtorEq, seval]
      refine OLe.row rfl fun i hi => ?_
      by_cases e : i < dn.length
      · simp [List.getElem?_append_left e]
      · by_cases e2 : i = dn.length
        · subst e2; simp [sumC]
        · rw [List.getD_eq_getElem?_getD, List.getElem?_eq_none (by omega), List.getD_eq_getElem?_getD, List.getElem?_eq_none (by simp; omega)]
    rintro k hk2
    simp only [slT, gC, slC, cT, cC, vcb, ↓evSo_some, ↓reduceIte, reduceCtorEq, seval]
    refine ⟨fun h2 => ?_, fun h2 => ?_⟩
    · have hlt2 : k < F.length := by have := of_decide_eq_true h2; omega
      obtain ⟨p, hd2, hg2, hpm, hat2⟩ := drop_at hlt2
      have htk : F.take (k + 1) = F.take k ++ [p] := by rw [List.take_add_one, hat2]; rfl
      have hacc : (dn ++ [sumC t.id 0 (F.take k)]).getD dn.length 0 = sumC t.id 0 (F.take k) := by simp
      simp only [hg2, vcb, ↓evSo_some, ↓reduceIte, reduceCtorEq, seval]
      repeat' first
          | refine And.intro (fun h => ?_) (fun h => ?_)
          | refine And.intro (by first | omega | (simp only [maxLen, decide_eq_true_eq, decide_eq_false_iff_not] at *; omega)) ?_
          | (refine TR.aslO rfl rfl rfl rfl trivial (Nat.le_of_ble_eq_true rfl) ?_
             try simp only [hg2, hacc, vcb, ↓evSo_some, ↓reduceIte, reduceCtorEq, seval])
          | refine And.intro trivial ?_
          | refine And.intro rfl ?_
          | fail
      · have hid : p.1 = t.id := by simpa using h
        refine lopK.on (k + 1) hlt2 (by omega) (Wk.of _ hfn rfl (by simp only [slT, gC, slC, enb, vcb, ↓evSo_some, ↓reduceIte, reduceCtorEq, seval]; exact wS (by omega)) ?_)
        simp only [cT, enb, vcb, ↓evSo_some, ↓reduceIte, reduceCtorEq, seval]
        refine OLe.row rfl fun i hi => ?_
        rw [htk, sumC_app]
        simp only [sumC, if_pos hid]
        by_cases e : i = dn.length
        · subst e; simp [putD]
        · rw [if_neg e]
          by_cases e3 : i < dn.length
          · simp [List.getElem?_append_left e3]
          · rw [List.getD_eq_getElem?_getD, List.getElem?_eq_none (by simp; omega), List.getD_eq_getElem?_getD, List.getElem?_eq_none (by simp; omega)]
      · have hid : ¬ p.1 = t.id := by simpa using h
        refine lopK.on (k + 1) hlt2 (by omega) (Wk.of _ hfn rfl (by simp only [slT, gC, slC, enb, vcb, ↓evSo_some, ↓reduceIte, reduceCtorEq, seval]; exact wS (by omega)) (by simp only [cT, htk, sumC_app, sumC, if_neg hid, enb, vcb, ↓evSo_some, ↓reduceIte, reduceCtorEq, seval]))
    · have hkl : k = F.length := by have := of_decide_eq_false h2; omega
      subst hkl
      rw [List.take_length]
      repeat' first
          | refine And.intro (fun h => ?_) (fun h => ?_)
          | refine And.intro (by first | omega | (simp only [maxLen, decide_eq_true_eq, decide_eq_false_iff_not] at *; omega)) ?_
          | (refine TR.aslO rfl rfl rfl rfl trivial (Nat.le_of_ble_eq_true rfl) ?_
             try simp only [vcb, ↓evSo_some, ↓reduceIte, reduceCtorEq, seval])
          | refine And.intro trivial ?_
          | refine And.intro rfl ?_
          | fail
      refine lopK.on (dn ++ [sumC t.id 0 F]) ⟨by simp; omega, by rw [he]; simp⟩ (by simp; omega) (Wk.of _ hfn rfl (by simp only [slT, gC, List.length_append, List.length_singleton, enb, vcb, ↓evSo_some, ↓reduceIte, reduceCtorEq, seval]; exact wS (by omega)) (by simp only [enb, vcb, ↓evSo_some, ↓reduceIte, reduceCtorEq, seval]))
  · have hkl : dn.length = ts.length := by have := of_decide_eq_false h1; omega
    rw [hkl, List.drop_length, sumsT_nil, List.append_nil] at he
    repeat' first
        | refine And.intro (fun h => ?_) (fun h => ?_)
        | refine And.intro (by first | omega | (simp only [maxLen, decide_eq_true_eq, decide_eq_false_iff_not] at *; omega)) ?_
        | (refine TR.aslO rfl rfl rfl rfl trivial (Nat.le_of_ble_eq_true rfl) ?_
           try simp only [vcb, ↓evSo_some, ↓reduceIte, reduceCtorEq, seval])
        | refine And.intro trivial ?_
        | refine And.intro rfl ?_
        | fail
    refine RetK.mk _ (Wk.pub 12 rfl) (by simp only [rs17, rsb, vcb, ↓evSo_some, ↓reduceIte, reduceCtorEq, seval]) ?_ trivial
    simp only [rs17, rsb, vcb, ↓evSo_some, ↓reduceIte, reduceCtorEq, seval]
    rw [he]
    exact VLe.sl hkl.symm (fun _ => rfl) id fun i hi => rfl
set_option maxHeartbeats 2000000 in
theorem rSums (ts : List Tr) (G : List (List (Int × Int))) (ht : ts.length ≤ 1000000) (hG : G.length ≤ 1000000) (hF : G.flatten.length ≤ 1000000000) : Ctr Try.prog 18 [.d (slT ts), .d (gC G)] [] (.d (slK .i64 (sumsT ts G))) [] [] := by
  refine ctr_pure Try.func18 ok18 rfl cc18 cr18 Try.ntmps18 (by simp) rfl rfl ?_; intro c hP hfn; simp only [kc18, slT, gC, vcb, ↓evSo_some, ↓reduceIte, reduceCtorEq, seval]
  refine vcC.loop (X := List Int) (fun x => ⟨[(0, .d (slT ts)), (1, .d (gC G)), (5, .osl 1000), (6, .d (.int .i64 x.length))], [(1000, rowI x)], [1000]⟩)
    (fun x => x.length ≤ ts.length ∧ sumsT ts G = x ++ sumsT (ts.drop x.length) G) (fun x => ts.length - x.length) [] ⟨Nat.zero_le _, rfl⟩
    ((Wk.row0 (s := 5) (k := 1000) (e := 3) (sz := 1) (f' := fun _ => []) rfl rfl (by simp)).trans (Wk.of _ hfn rfl (by simp only [slT, gC, enb, vcb, ↓evSo_some, ↓reduceIte, reduceCtorEq, seval]) (by simp only [rowI, enb, vcb, ↓evSo_some, ↓reduceIte, reduceCtorEq, seval]; exact OLe.row rfl (fun i hi => absurd hi (Nat.not_lt_zero i))))) ?_
  rintro dn ⟨hk, he⟩
  simp only [slT, gC, rowI, vcb, ↓evSo_some, ↓reduceIte, reduceCtorEq, seval]
  refine ⟨fun h1 => ?_, fun h1 => ?_⟩
  · have hlt : dn.length < ts.length := by have := of_decide_eq_true h1; omega
    obtain ⟨t, hd, hg, htm, -⟩ := drop_at hlt
    rw [hd, sumsT_cons] at he
    refine vcC.loop (X := Nat) (fun i => ⟨[(0, .d (slT ts)), (1, .d (gC G)), (5, .osl 1000), (6, .d (.int .i64 dn.length)), (7, .d (.int .i64 (sumC t.id 0 (G.take i).flatten))), (8, .d (.int .i64 i))], [(1000, rowI dn)], [1000]⟩)
      (fun i => i ≤ G.length) (fun i => G.length - i) 0 (Nat.zero_le _) (Wk.of _ hfn rfl (by simp only [slT, gC, List.take_zero, List.flatten_nil, sumC, enb, vcb, ↓evSo_some, ↓reduceIte, reduceCtorEq, seval]) (by simp only [rowI, enb, vcb, ↓evSo_some, ↓reduceIte, reduceCtorEq, seval])) ?_
    rintro i hi
    simp only [slT, gC, rowI, vcb, ↓evSo_some, ↓reduceIte, reduceCtorEq, seval]
    refine ⟨fun h2 => ?_, fun h2 => ?_⟩
    · have hlt2 : i < G.length := by have := of_decide_eq_true h2; omega
      obtain ⟨g, hd2, hg2, hgm, hat⟩ := drop_at hlt2
      have hfl := flat_take hat
      have hle2 := flat_le G (i + 1)
      have hgl : g.length ≤ 1000000000 := by rw [hfl, List.length_append] at hle2; omega
      refine vcC.loop (X := Nat) (fun m => ⟨[(0, .d (slT ts)), (1, .d (gC G)), (5, .osl 1000), (6, .d (.int .i64 dn.length)), (7, .d (.int .i64 (sumC t.id (sumC t.id 0 (G.take i).flatten) (g.take m)))), (8, .d (.int .i64 i)), (9, .d (.int .i64 m))], [(1000, rowI dn)], [1000]⟩)
        (fun m => m ≤ g.length) (fun m => g.length - m) 0 (Nat.zero_le _) (Wk.of _ hfn rfl (by simp only [slT, gC, List.take_zero, sumC, enb, vcb, ↓evSo_some, ↓reduceIte, reduceCtorEq, seval]) (by simp only [rowI, enb, vcb, ↓evSo_some, ↓reduceIte, reduceCtorEq, seval])) ?_
      rintro m hm
      simp only [slT, gC, rowI, nestD, hg2, hg, vcb, ↓evSo_some, ↓reduceIte, reduceCtorEq, seval]
      repeat' first
          | refine And.intro (fun h => ?_) (fun h => ?_)
          | refine And.intro (by first | omega | (simp only [maxLen, decide_eq_true_eq, decide_eq_false_iff_not] at *; omega)) ?_
          | (refine TR.aslO rfl rfl rfl rfl trivial (Nat.le_of_ble_eq_true rfl) ?_
             try simp only [nestD, hg2, hg, vcb, ↓evSo_some, ↓reduceIte, reduceCtorEq, seval])
          | refine And.intro trivial ?_
          | refine And.intro rfl ?_
          | fail
      · have hlt3 : m < g.length := by have := of_decide_eq_true h; omega
        obtain ⟨p, hd3, hg3, hpm, hat3⟩ := drop_at hlt3
        have htk : g.take (m + 1) = g.take m ++ [p] := by rw [List.take_add_one, hat3]; rfl
        clear h
        simp only [hg3, cC, hg, hg2, nestD, vcb, ↓evSo_some, ↓reduceIte, reduceCtorEq, seval]
        repeat' first
            | refine And.intro (fun h => ?_) (fun h => ?_)
            | refine And.intro (by first | omega | (simp only [maxLen, decide_eq_true_eq, decide_eq_false_iff_not] at *; omega)) ?_
            | (refine TR.aslO rfl rfl rfl rfl trivial (Nat.le_of_ble_eq_true rfl) ?_
               try simp only [nestD, hg2, hg, hg3, cC, vcb, ↓evSo_some, ↓reduceIte, reduceCtorEq, seval])
            | refine And.intro trivial ?_
            | refine And.intro rfl ?_
            | fail
        · have hid : p.1 = t.id := by simpa using h
          refine lopK.on (m + 1) hlt3 (by omega) (Wk.of _ hfn rfl ?_ (by simp only [rowI, enb, vcb, ↓evSo_some, ↓reduceIte, reduceCtorEq, seval]))
          simp only [slT, gC, htk, sumC_app, sumC, if_pos hid, enb, vcb, ↓evSo_some, ↓reduceIte, reduceCtorEq, seval]; exact wS (by omega)
        · have hid : ¬ p.1 = t.id := by simpa using h
          refine lopK.on (m + 1) hlt3 (by omega) (Wk.of _ hfn rfl ?_ (by simp only [rowI, enb, vcb, ↓evSo_some, ↓reduceIte, reduceCtorEq, seval]))
          simp only [slT, gC, htk, sumC_app, sumC, if_neg hid, enb, vcb, ↓evSo_some, ↓reduceIte, reduceCtorEq, seval]; exact wS (by omega)
      · have hml : m = g.length := by have := of_decide_eq_false h; omega
        subst hml
        rw [List.take_length]
        repeat' first
            | refine And.intro (fun h => ?_) (fun h => ?_)
            | refine And.intro (by first | omega | (simp only [maxLen, decide_eq_true_eq, decide_eq_false_iff_not] at *; omega)) ?_
            | (refine TR.aslO rfl rfl rfl rfl trivial (Nat.le_of_ble_eq_true rfl) ?_
               try simp only [vcb, ↓evSo_some, ↓reduceIte, reduceCtorEq, seval])
            | refine And.intro trivial ?_
            | refine And.intro rfl ?_
            | fail
        refine lopK.on (i + 1) hlt2 (by omega) (Wk.of _ hfn rfl ?_ (by simp only [rowI, enb, vcb, ↓evSo_some, ↓reduceIte, reduceCtorEq, seval]))
        simp only [slT, gC, hfl, sumC_app, enb, vcb, ↓evSo_some, ↓reduceIte, reduceCtorEq, seval]; exact wS (by omega)
    · have hkl : i = G.length := by have := of_decide_eq_false h2; omega
      subst hkl
      rw [List.take_length]
      have hbytes : (dn.length + 1) * 8 ≤ 140737488355328 := by omega
      have hmx : dn.length + 1 ≤ maxLen := by simp only [maxLen]; omega
      repeat' first
          | refine And.intro (fun h => ?_) (fun h => ?_)
          | refine And.intro (by first | omega | (simp only [maxLen, decide_eq_true_eq, decide_eq_false_iff_not] at *; omega)) ?_
          | (refine TR.aslO rfl rfl rfl rfl trivial (Nat.le_of_ble_eq_true rfl) ?_
             try simp only [vcb, ↓evSo_some, ↓reduceIte, reduceCtorEq, seval])
          | refine And.intro trivial ?_
          | refine And.intro rfl ?_
          | fail
      exact lopK.on (dn ++ [sumC t.id 0 G.flatten]) ⟨by simp; omega, by rw [he]; simp⟩ (by simp; omega) ((Wk.sw 58 1000 _ hfn (by simp) (by simp)).trans (Wk.of _ hfn rfl (by simp only [slT, gC, List.length_append, List.length_singleton, enb, vcb, ↓evSo_some, ↓reduceIte, reduceCtorEq, seval]; exact wS (by omega)) (by simp only [rowI, enb, vcb, ↓evSo_some, ↓reduceIte, reduceCtorEq, seval]; exact OLe.app1 (fun n : Int => [.int .i64 n]) (fun i hi => by simp [hi]) (by simp [litRow]))))
  · have hkl : dn.length = ts.length := by have := of_decide_eq_false h1; omega
    rw [hkl, List.drop_length, sumsT_nil, List.append_nil] at he
    repeat' first
        | refine And.intro (fun h => ?_) (fun h => ?_)
        | refine And.intro (by first | omega | (simp only [maxLen, decide_eq_true_eq, decide_eq_false_iff_not] at *; omega)) ?_
        | (refine TR.aslO rfl rfl rfl rfl trivial (Nat.le_of_ble_eq_true rfl) ?_
           try simp only [vcb, ↓evSo_some, ↓reduceIte, reduceCtorEq, seval])
        | refine And.intro trivial ?_
        | refine And.intro rfl ?_
        | fail
    refine RetK.mk _ (Wk.pub 1000 rfl) (by simp only [rs18, rsb, vcb, ↓evSo_some, ↓reduceIte, reduceCtorEq, seval]) ?_ trivial
    simp only [rs18, rsb, vcb, ↓evSo_some, ↓reduceIte, reduceCtorEq, seval]
    rw [he]
    exact VLe.refl _
end Go.Proofs.Ytgpckelpmincmaa
end
section
set_option linter.unusedSimpArgs false
set_option linter.unusedVariables false
namespace Go.Proofs.Ytgpckelpmincmaa
set_option linter.unusedSimpArgs false
set_option linter.unusedVariables false
open Go.Bx
set_option maxRecDepth 10000
theorem rFew (ts : List Tr) (l : List Ls) : Ctr Try.prog 10 [.d (slT ts), .d (slX l)] [] (.d (.bool (decide (ts.length ≤ 20 ∧ l.length ≤ 60)))) [] [] := by
  refine ctr_pure Try.func10 ok10 rfl cc10 cr10 Try.ntmps10 (by simp) rfl rfl ?_; intro c hP hfn; simp only [kc10, slT, slX, vcb, ↓evSo_some, ↓reduceIte, reduceCtorEq, seval]
  exact RetK.pure (by simp only [rs10, rsb, vcb, ↓evSo_some, ↓reduceIte, reduceCtorEq, seval]) (by (simp only [rs10, rsb, vcb, ↓evSo_some, ↓reduceIte, reduceCtorEq, seval, enb, vcb, ↓evSo_some, ↓reduceIte, reduceCtorEq, seval]) <;> (first | (by_cases h1 : ts.length ≤ 20 <;> by_cases h2 : l.length ≤ 60 <;> simp [h1, h2] <;> omega)))
set_option maxHeartbeats 2000000 in
theorem rSameC (a b : List (List (Int × Int))) (ha : a.length ≤ 1000000) (hal : ∀ g, g ∈ a → g.length ≤ 1000000) (hb : b.length ≤ 1000000) (hbl : ∀ g, g ∈ b → g.length ≤ 1000000) : Ctr Try.prog 13 [.d (gC a), .d (gC b)] [] (.d (.bool (decide (a = b)))) [] [] := by
  refine ctr_pure Try.func13 ok13 rfl cc13 cr13 Try.ntmps13 (by simp) rfl rfl ?_; intro c hP hfn; simp only [kc13, gC, vcb, ↓evSo_some, ↓reduceIte, reduceCtorEq, seval]
  refine ⟨fun h => ?_, fun h => ?_⟩
  · have hn : a ≠ b := by rintro rfl; simp at h
    exact RetK.pure (by simp only [rs13, rsb, vcb, ↓evSo_some, ↓reduceIte, reduceCtorEq, seval]) (by (simp only [rs13, rsb, vcb, ↓evSo_some, ↓reduceIte, reduceCtorEq, seval, enb, vcb, ↓evSo_some, ↓reduceIte, reduceCtorEq, seval]) <;> (first | simp [hn]))
  have hab : a.length = b.length := by have h := eq_of_beq (show ((a.length : Int) == b.length) = true by simpa using h); omega
  clear h
  refine vcC.loop (X := Nat) (fun k => ⟨[(0, .d (gC a)), (1, .d (gC b)), (5, .d (.int .i64 k))], [], []⟩)
    (fun k => k ≤ a.length ∧ (a = b ↔ a.drop k = b.drop k)) (fun k => a.length - k) 0 ⟨Nat.zero_le _, by simp⟩ (Wk.of [] hfn rfl (by (simp only [gC, enb, vcb, ↓evSo_some, ↓reduceIte, reduceCtorEq, seval]) <;> (first | exact wS (by omega) | (rw [List.length_append]; exact wS (by omega)) | assumption)) (by simp only [enb, vcb, ↓evSo_some, ↓reduceIte, reduceCtorEq, seval])) ?_
  rintro k ⟨hk, he⟩
  simp only [gC, vcb, ↓evSo_some, ↓reduceIte, reduceCtorEq, seval]
  refine ⟨fun h1 => ?_, fun h1 => ?_⟩
  · have hlt : k < a.length := by have := of_decide_eq_true h1; omega
    obtain ⟨x, hd, hg, hxm, -⟩ := drop_at hlt
    obtain ⟨y, hd2, hg2, hym, -⟩ := drop_at (hab ▸ hlt)
    have hlx := hal x hxm
    have hly := hbl y hym
    rw [hd, hd2] at he
    simp only [nestD, hg, hg2, vcb, ↓evSo_some, ↓reduceIte, reduceCtorEq, seval]
    repeat' first
        | refine And.intro (fun h => ?_) (fun h => ?_)
        | refine And.intro (by first | omega | (simp only [maxLen, decide_eq_true_eq, decide_eq_false_iff_not] at *; omega)) ?_
        | (refine TR.aslO rfl rfl rfl rfl trivial (Nat.le_of_ble_eq_true rfl) ?_
           try simp only [nestD, hg, hg2, vcb, ↓evSo_some, ↓reduceIte, reduceCtorEq, seval])
        | refine And.intro trivial ?_
        | refine And.intro rfl ?_
        | fail
    · have hn : a ≠ b := fun e => by have := he.1 e; simp at this; simp [this.1] at h
      exact RetK.pure (by simp only [rs13, rsb, vcb, ↓evSo_some, ↓reduceIte, reduceCtorEq, seval]) (by (simp only [rs13, rsb, vcb, ↓evSo_some, ↓reduceIte, reduceCtorEq, seval, enb, vcb, ↓evSo_some, ↓reduceIte, reduceCtorEq, seval]) <;> (first | simp [hn]))
    have hxy : x.length = y.length := by have h := eq_of_beq (show ((x.length : Int) == y.length) = true by simpa using h); omega
    clear h
    refine vcC.loop (X := Nat) (fun m => ⟨[(0, .d (gC a)), (1, .d (gC b)), (5, .d (.int .i64 k)), (6, .d (.int .i64 m))], [], []⟩)
      (fun m => m ≤ x.length ∧ (x = y ↔ x.drop m = y.drop m)) (fun m => x.length - m) 0 ⟨Nat.zero_le _, by simp⟩ (Wk.of [] hfn rfl (by (simp only [gC, enb, vcb, ↓evSo_some, ↓reduceIte, reduceCtorEq, seval]) <;> (first | exact wS (by omega) | (rw [List.length_append]; exact wS (by omega)) | assumption)) (by simp only [enb, vcb, ↓evSo_some, ↓reduceIte, reduceCtorEq, seval])) ?_
    rintro m ⟨hm, hem⟩
    simp only [gC, nestD, hg, hg2, vcb, ↓evSo_some, ↓reduceIte, reduceCtorEq, seval]
    repeat' first
        | refine And.intro (fun h => ?_) (fun h => ?_)
        | refine And.intro (by first | omega | (simp only [maxLen, decide_eq_true_eq, decide_eq_false_iff_not] at *; omega)) ?_
        | (refine TR.aslO rfl rfl rfl rfl trivial (Nat.le_of_ble_eq_true rfl) ?_
           try simp only [nestD, hg, hg2, vcb, ↓evSo_some, ↓reduceIte, reduceCtorEq, seval])
        | refine And.intro trivial ?_
        | refine And.intro rfl ?_
        | fail
    · have hlt2 : m < x.length := by have := of_decide_eq_true h; omega
      obtain ⟨p, hp, hgp, hpm, -⟩ := drop_at hlt2
      obtain ⟨q, hq, hgq, hqm, -⟩ := drop_at (hxy ▸ hlt2)
      rw [hp, hq] at hem
      clear h
      simp only [nestD, hg, hg2, hgp, hgq, cC, vcb, ↓evSo_some, ↓reduceIte, reduceCtorEq, seval]
      repeat' first
          | refine And.intro (fun h => ?_) (fun h => ?_)
          | refine And.intro (by first | omega | (simp only [maxLen, decide_eq_true_eq, decide_eq_false_iff_not] at *; omega)) ?_
          | (refine TR.aslO rfl rfl rfl rfl trivial (Nat.le_of_ble_eq_true rfl) ?_
             try simp only [nestD, hg, hg2, hgp, hgq, cC, vcb, ↓evSo_some, ↓reduceIte, reduceCtorEq, seval])
          | refine And.intro trivial ?_
          | refine And.intro rfl ?_
          | fail
      · have hn : a ≠ b := fun e => by
          have h1 := he.1 e
          simp only [List.cons.injEq] at h1
          have h2 := hem.1 h1.1
          simp only [List.cons.injEq] at h2
          rw [h2.1] at h; simp at h
        exact RetK.pure (by simp only [rs13, rsb, vcb, ↓evSo_some, ↓reduceIte, reduceCtorEq, seval]) (by (simp only [rs13, rsb, vcb, ↓evSo_some, ↓reduceIte, reduceCtorEq, seval, enb, vcb, ↓evSo_some, ↓reduceIte, reduceCtorEq, seval]) <;> (first | simp [hn]))
      · refine lopK.on (m + 1) ⟨hlt2, ?_⟩ (by omega) (Wk.of [] hfn rfl (by (simp only [gC, enb, vcb, ↓evSo_some, ↓reduceIte, reduceCtorEq, seval]) <;> (first | exact wS (by omega) | (rw [List.length_append]; exact wS (by omega)) | assumption)) (by simp only [enb, vcb, ↓evSo_some, ↓reduceIte, reduceCtorEq, seval]))
        have hpq : p = q := by
          obtain ⟨p1, p2⟩ := p
          obtain ⟨q1, q2⟩ := q
          simp at h
          rw [h.1, h.2]
        rw [hem, hpq]; simp
    · have hml : m = x.length := by have := of_decide_eq_false h; omega
      have hxy2 : x = y := hem.2 (by rw [hml]; simp [hxy])
      refine lopK.on (k + 1) ⟨hlt, ?_⟩ (by omega) (Wk.of [] hfn rfl (by (simp only [gC, enb, vcb, ↓evSo_some, ↓reduceIte, reduceCtorEq, seval]) <;> (first | exact wS (by omega) | (rw [List.length_append]; exact wS (by omega)) | assumption)) (by simp only [enb, vcb, ↓evSo_some, ↓reduceIte, reduceCtorEq, seval]))
      rw [he, hxy2]; simp
  · have hkl : k = a.length := by have := of_decide_eq_false h1; omega
    have : a = b := he.2 (by rw [hkl]; simp [hab])
    exact RetK.pure (by simp only [rs13, rsb, vcb, ↓evSo_some, ↓reduceIte, reduceCtorEq, seval]) (by (simp only [rs13, rsb, vcb, ↓evSo_some, ↓reduceIte, reduceCtorEq, seval, enb, vcb, ↓evSo_some, ↓reduceIte, reduceCtorEq, seval]) <;> (first | simp [this]))
end Go.Proofs.Ytgpckelpmincmaa
end
section
set_option linter.unusedSimpArgs false
set_option linter.unusedVariables false
namespace Go.Proofs.Ytgpckelpmincmaa
set_option linter.unusedSimpArgs false
set_option linter.unusedVariables false
open Go.Bx
set_option maxRecDepth 10000
set_option maxHeartbeats 8000000 in
theorem sTOf (ts : List Tr) (l : List Ls) (ht : ts.length ≤ 1000) (hl : l.length ≤ 1000000) :
    Ctr Try.prog 11 [.d (slT ts), .d (slX l)] [] (.tup [.d (.sl false 1 (ofT ts l).1.length (nestD (0, 0) cC 2 (ofT ts l).1)), .d (slK .i64 (ofT ts l).2.1), .d (.int .i64 (ofT ts l).2.2)]) [] [] := by
  have cm := sMay ts l ht (by omega)
  have cc := (sCloneX l hl).sw 7 900
  have cd := sCloneD l hl
  have co := sOrder ts ht
  simp only [slT, slX, slK] at cm cd co
  simp only [slX, rowX, vcb, ↓evSo_some, ↓reduceIte, reduceCtorEq, seval] at cc
  refine ctr_pure Try.func11 ok11 rfl cc11 cr11 Try.ntmps11 (by simp) rfl rfl ?_; intro c hP hfn; simp only [kc11, slT, slX, vcb, ↓evSo_some, ↓reduceIte, reduceCtorEq, seval]
  repeat' first
      | (first
          | refine TR.p hP (by first | exact cm) (by repeat' first | exact trivial | (intro _; assumption) | apply And.intro) ?_
          | refine TR.gp hP rfl (fun _ => by first | exact cm) (fun _ => by repeat' first | exact trivial | (intro _; assumption) | apply And.intro) ?_
          | refine TR.pv hP rfl (by first | exact cm) trivial (by repeat' first | exact trivial | (intro _; assumption) | apply And.intro) ?_
         try simp only [vcb, ↓evSo_some, ↓reduceIte, reduceCtorEq, seval])
      | refine And.intro (fun h => ?_) (fun h => ?_)
      | refine And.intro (by first | omega | (simp only [maxLen, decide_eq_true_eq, decide_eq_false_iff_not] at *; omega)) ?_
      | (refine TR.aslO rfl rfl rfl rfl trivial (Nat.le_of_ble_eq_true rfl) ?_
         try simp only [vcb, ↓evSo_some, ↓reduceIte, reduceCtorEq, seval])
      | refine And.intro trivial ?_
      | refine And.intro rfl ?_
      | fail
  · have h' : mayT ts l ≠ 0 := by simpa using h
    have e : ofT ts l = ([], [], mayT ts l) := by rw [ofT, if_pos h']
    (refine RetK.pure (by simp only [rs11, rsb, vcb, ↓evSo_some, ↓reduceIte, reduceCtorEq, seval]) (VLe.tups ?_); simp only [rs11, rsb, vcb, ↓evSo_some, ↓reduceIte, reduceCtorEq, seval])
    rw [e]; exact ⟨VLe.nil rfl (by simp), nilK, VLe.refl _, trivial⟩
  have h0 : mayT ts l = 0 := by simpa using h
  clear h
  obtain ⟨hR, hX, hts, hls, -, -⟩ := may_ok h0
  have hof : ofT ts l = ((towerT ts l).2, (towerT ts l).1, 0) := by rw [ofT, if_neg (by simp [h0])]
  have homem := order_mem ts
  have holen : (orderT ts).length ≤ 1000 := by
    rw [orderT_eq, List.length_map]
    have := (ordP_ok ts).2.length_eq
    have := plsT_len ts 0
    omega
  refine TR.call [] [(900, rowX l)] _ [900] (by rw [hP]; exact cc) (by repeat' first | exact trivial | (intro _; assumption) | apply And.intro) (by simp) (by simp [keysO]) (by simp) ?_
  simp only [vcb, ↓evSo_some, ↓reduceIte, reduceCtorEq, seval]
  repeat' first
      | (first
          | refine TR.p hP (by first | exact cd | exact co) (by repeat' first | exact trivial | (intro _; assumption) | apply And.intro) ?_
          | refine TR.gp hP rfl (fun _ => by first | exact cd | exact co) (fun _ => by repeat' first | exact trivial | (intro _; assumption) | apply And.intro) ?_
          | refine TR.pv hP rfl (by first | exact cd | exact co) trivial (by repeat' first | exact trivial | (intro _; assumption) | apply And.intro) ?_
         try simp only [vcb, ↓evSo_some, ↓reduceIte, reduceCtorEq, seval])
      | refine And.intro (fun h => ?_) (fun h => ?_)
      | refine And.intro (by first | omega | (simp only [maxLen, decide_eq_true_eq, decide_eq_false_iff_not] at *; omega)) ?_
      | (refine TR.aslO rfl rfl rfl rfl trivial (Nat.le_of_ble_eq_true rfl) ?_
         try simp only [vcb, ↓evSo_some, ↓reduceIte, reduceCtorEq, seval])
      | refine And.intro trivial ?_
      | refine And.intro rfl ?_
      | fail
  refine vcC.loop (X := Nat × Sw × List Ls × Int) (fun x => ofSt ts l x.2.2.1 x.2.2.2 x.1 x.2.1 [] [] [])
    (fun x => x.1 ≤ (orderT ts).length ∧ SwI l x.1 0 x.2.1 ∧ RdOk l x.2.2.1 ∧ x.2.2.1.length = l.length ∧ (∀ y, y ∈ x.2.2.1 → lossX y = true) ∧ towerT ts l = twr l ts ((orderT ts).drop x.1) x.2.1 x.2.2.1 x.2.2.2) (fun x => (orderT ts).length - x.1) (0, sw0 l, l, 1)
    ⟨Nat.zero_le _, sw0_ok l hX, RdOk.self hX, rfl, hX, rfl⟩ (Wk.ofI hfn (by simp only [ofE, slT, slX, slK, enb, vcb, ↓evSo_some, ↓reduceIte, reduceCtorEq, seval]) (by simp only [OwnLeS, rowX, enb, vcb, ↓evSo_some, ↓reduceIte, reduceCtorEq, seval]) (by simp only [enb, vcb, ↓evSo_some, ↓reduceIte, reduceCtorEq, seval])) ?_
  rintro ⟨k, s, rd, kd⟩ ⟨hk, hI, hro, hrl, hrx, he⟩
  simp only at hk hI hro hrl hrx he
  simp only [ofSt, ofE, slT, slX, slK, rowX, List.append_nil, List.cons_append, List.nil_append, vcb, ↓evSo_some, ↓reduceIte, reduceCtorEq, seval]
  refine ⟨fun h1 => ?_, fun h1 => ?_⟩
  · have hlt : k < (orderT ts).length := by have := of_decide_eq_true h1; omega
    obtain ⟨q, hd, hgq, hqm, -⟩ := drop_at hlt
    have hq := homem q hqm
    obtain ⟨iq, rfl⟩ : ∃ iq : Nat, q = (iq : Int) := ⟨q.toNat, by omega⟩
    have hit : iq < ts.length := by omega
    obtain ⟨t, -, hgt, htm, -⟩ := drop_at hit
    have hRt := hR t htm
    rw [hd, twr, Int.toNat_natCast, hgt] at he
    have ewk : IntKind.i64.wrap ((k : Int) + 1) = ((k + 1 : Nat) : Int) := wS (by omega)
    simp only [hgq, hgt, own?_setO, own?_nestD, mem_nmN, vcb, ↓evSo_some, ↓reduceIte, reduceCtorEq, seval]
    repeat' first
        | refine And.intro (fun h => ?_) (fun h => ?_)
        | refine And.intro (by first | omega | (simp only [maxLen, decide_eq_true_eq, decide_eq_false_iff_not] at *; omega)) ?_
        | (refine TR.aslO rfl rfl rfl rfl trivial (Nat.le_of_ble_eq_true rfl) ?_
           try simp only [hgq, hgt, own?_setO, own?_nestD, mem_nmN, Int.toNat_natCast, vcb, ↓evSo_some, ↓reduceIte, reduceCtorEq, seval])
        | refine And.intro trivial ?_
        | refine And.intro rfl ?_
        | fail
    · have hkd : t.kind ≠ kd := by simpa using h
      simp only [hkd, ne_eq, not_false_eq_true, if_true] at he
      have hbase : ∀ y, y ∈ withX l s.1 → lossX y = true := with_right hI.la hX hI.am
      have hbl : (withX l s.1).length = l.length := with_len hI.la
      have ce := (sCloneE (withX l s.1) (by omega)).sw 1 900
      simp only [rowX, slX, vcb, ↓evSo_some, ↓reduceIte, reduceCtorEq, seval] at ce
      refine TR.keep [900] (.d (slX (withX l s.1))) (valid_keep (ins := [(900, rowX (withX l s.1))]) (valid_call (by rw [hP]; exact ce) (by repeat' first | exact trivial | (intro _; assumption) | apply And.intro) (hin1 rfl) (by simp [keysO])) (hin1 rfl) (by simp [keysO]) (by simp [keysO])) ?_
      clear h ce
      simp only [slX, own?_setO, own?_nestD, mem_nmN, vcb, ↓evSo_some, ↓reduceIte, reduceCtorEq, seval]
      have cb := sTBears t (withX l s.1) (by omega)
      simp only [vT, cT, slX, slK] at cb
      obtain ⟨hb1, hb2, -, -⟩ := rd_bears hX hls (show RdOk l (withX l s.1) from RdOk.next hI) hRt
      repeat' first
          | (first
              | refine TR.p hP (by first | exact cb) (by repeat' first | exact trivial | (intro _; assumption) | apply And.intro) ?_
              | refine TR.gp hP rfl (fun _ => by first | exact cb) (fun _ => by repeat' first | exact trivial | (intro _; assumption) | apply And.intro) ?_
              | refine TR.pv hP rfl (by first | exact cb) trivial (by repeat' first | exact trivial | (intro _; assumption) | apply And.intro) ?_
             try simp only [own?_setO, own?_nestD, own?_delC, own?_delC1, own?_delC2, ne_lo', ne_hi, mem_nmN, vcb, ↓evSo_some, ↓reduceIte, reduceCtorEq, seval])
          | refine And.intro (fun h => ?_) (fun h => ?_)
          | refine And.intro (by first | omega | (simp only [maxLen, decide_eq_true_eq, decide_eq_false_iff_not] at *; omega)) ?_
          | (refine TR.aslO rfl rfl rfl rfl trivial (Nat.le_of_ble_eq_true rfl) ?_
             try simp only [own?_setO, own?_nestD, own?_delC, own?_delC1, own?_delC2, ne_lo', ne_hi, mem_nmN, vcb, ↓evSo_some, ↓reduceIte, reduceCtorEq, seval])
          | refine And.intro trivial ?_
          | refine And.intro rfl ?_
          | fail
      generalize hb : bearsA t (withX l s.1) = b at *
      have hsl := hI.lg
      refine vcC.loop (X := Nat × Sw) (fun x => ofSt ts l (withX l s.1) t.kind k x.2 [(14, .own 14 0), (54, .d (slK .i64 b)), (55, .d (.int .i64 b.length)), (56, .d (.int .i64 x.1))] [(14, .fix (cT t))] [14])
        (fun x => x.1 ≤ b.length ∧ SwI l k x.1 x.2 ∧ swe t.id b s = swpR t.id b (b.length - x.1) x.1 x.2) (fun x => b.length - x.1) (0, s) ⟨Nat.zero_le _, hI, rfl⟩
        (Wk.of0 hfn rfl rfl (by simp only [ofE, slT, slX, slK, own?_setO, own?_nestD, own?_delC, own?_delC1, own?_delC2, ne_lo', ne_hi, mem_nmN, List.cons_append, List.nil_append, enb, vcb, ↓evSo_some, ↓reduceIte, reduceCtorEq, seval]) (by simp only [OwnLeS, rowX, cT, own?_setO, own?_nestD, own?_delC, own?_delC1, own?_delC2, ne_lo', ne_hi, mem_nmN, List.cons_append, List.nil_append, enb, vcb, ↓evSo_some, ↓reduceIte, reduceCtorEq, seval]) (by simp only [own?_setO, own?_nestD, own?_delC, own?_delC1, own?_delC2, ne_lo', ne_hi, mem_nmN, enb, vcb, ↓evSo_some, ↓reduceIte, reduceCtorEq, seval]) (fun j => by simp only [own?_setO, own?_nestD, own?_delC, own?_delC1, own?_delC2, ne_lo', ne_hi, mem_nmN, enb, vcb, ↓evSo_some, ↓reduceIte, reduceCtorEq, seval])) ?_
      rintro ⟨i, s1⟩ ⟨hi, hI1, he1⟩
      simp only at hi hI1 he1
      have hsl1 := hI1.lg
      have hwl : (withX l s1.1).length = l.length := with_len hI1.la
      simp only [ofSt, ofE, slT, slX, slK, rowX, cT, List.cons_append, List.nil_append, vcb, ↓evSo_some, ↓reduceIte, reduceCtorEq, seval]
      refine ⟨fun h2 => ?_, fun h2 => ?_⟩
      · have hi2 : i < b.length := by have := of_decide_eq_true h2; omega
        have hil : i < l.length := by omega
        have hbi := hb2 i
        have ham := hI1.am i
        have hbd : (l.getD i default).amt ≤ 1000000000000000 := by
          have := lossX_iff.1 (hX (l.getD i default) (by rw [List.getD_eq_getElem?_getD, List.getElem?_eq_getElem hil]; exact List.getElem_mem hil))
          omega
        have hwa : ((withX l s1.1).getD i default).amt = s1.1.getD i 0 := by rw [with_get hI1.la]
        have ewi : IntKind.i64.wrap ((i : Int) + 1) = ((i + 1 : Nat) : Int) := wS (by omega)
        have ew : IntKind.i64.wrap (s1.1.getD i 0 - min (b.getD i 0) (s1.1.getD i 0)) = s1.1.getD i 0 - min (b.getD i 0) (s1.1.getD i 0) := wI (by omega)
        have hI2 := hI1.step t.id (b := b) hil hbi
        rw [show b.length - i = (b.length - (i + 1)) + 1 by omega, swpR] at he1
        have hrow : ∀ q, q < (withX l s1.1).length → (if q = i then putD [.int .i64 ((withX l s1.1).getD i default).cl, .int .i64 ((withX l s1.1).getD i default).ev, .int .i64 ((withX l s1.1).getD i default).day, .int .i64 ((withX l s1.1).getD i default).per, .int .i64 (s1.1.getD i 0)] 4 [.int .i64 (s1.1.getD i 0 - min (b.getD i 0) (s1.1.getD i 0))]
            else [.int .i64 ((withX l s1.1).getD q default).cl, .int .i64 ((withX l s1.1).getD q default).ev, .int .i64 ((withX l s1.1).getD q default).day, .int .i64 ((withX l s1.1).getD q default).per, .int .i64 ((withX l s1.1).getD q default).amt] : List D) =
            [.int .i64 ((withX l (s1.1.set i (s1.1.getD i 0 - min (b.getD i 0) (s1.1.getD i 0)))).getD q default).cl, .int .i64 ((withX l (s1.1.set i (s1.1.getD i 0 - min (b.getD i 0) (s1.1.getD i 0)))).getD q default).ev, .int .i64 ((withX l (s1.1.set i (s1.1.getD i 0 - min (b.getD i 0) (s1.1.getD i 0)))).getD q default).day,
              .int .i64 ((withX l (s1.1.set i (s1.1.getD i 0 - min (b.getD i 0) (s1.1.getD i 0)))).getD q default).per, .int .i64 ((withX l (s1.1.set i (s1.1.getD i 0 - min (b.getD i 0) (s1.1.getD i 0)))).getD q default).amt] := fun q hq => by
          rw [hwl] at hq
          rw [with_get hI1.la, with_get (a := s1.1.set i _) (by rw [List.length_set]; exact hI1.la), with_get hI1.la, getD_set (by rw [hI1.la]; exact hil)]
          by_cases e : q = i
          · subst e; simp [putD]
          · rw [if_neg e, if_neg (fun h => e h.symm)]
        have hwl2 : (withX l (s1.1.set i (s1.1.getD i 0 - min (b.getD i 0) (s1.1.getD i 0)))).length = (withX l s1.1).length := by rw [hwl]; exact with_len (by rw [List.length_set]; exact hI1.la)
        simp only [hwa, ew, own?_setO, own?_nestD, own?_delC, own?_delC1, own?_delC2, ne_lo', ne_hi, mem_nmN, vcb, ↓evSo_some, ↓reduceIte, reduceCtorEq, seval]
        repeat' first
            | refine And.intro (fun h => ?_) (fun h => ?_)
            | refine And.intro (by first | omega | (simp only [maxLen, decide_eq_true_eq, decide_eq_false_iff_not] at *; omega)) ?_
            | (refine TR.aslO rfl rfl rfl rfl trivial (Nat.le_of_ble_eq_true rfl) ?_
               try simp only [hwa, ew, own?_setO, own?_nestD, own?_delC, own?_delC1, own?_delC2, ne_lo', ne_hi, mem_nmN, vcb, ↓evSo_some, ↓reduceIte, reduceCtorEq, seval])
            | refine And.intro trivial ?_
            | refine And.intro rfl ?_
            | fail
        · have hm : 0 < (min (b.getD i 0) (s1.1.getD i 0)) := by have := of_decide_eq_true h; omega
          clear h
          have hil2 : i < s1.2.length := by omega
          have hgi : s1.2[i]? = some s1.2[i] := List.getElem?_eq_getElem hil2
          have hgd : s1.2.getD i [] = s1.2[i] := by rw [List.getD_eq_getElem?_getD, hgi]; rfl
          have hgl := hI1.gl i _ hgi
          rw [if_neg (Nat.lt_irrefl i)] at hgl
          have hsw : swpS t.id b i s1 = (s1.1.set i (s1.1.getD i 0 - (min (b.getD i 0) (s1.1.getD i 0))), s1.2.set i (s1.2[i] ++ [(t.id, (min (b.getD i 0) (s1.1.getD i 0)))])) := by rw [swpS, if_pos hm, hgd]
          rw [hsw] at he1 hI2
          generalize s1.2[i] = g at *
          have hnth := nestC_nth (dx := ((0, 0) : Int × Int)) (cells := cC) (K := 5000) (τ := 0) (sz := 2) (i := 0) hgi
          rw [Nat.zero_add] at hnth
          have hfin : ∀ (st : St), EnvLe (renE (Go.Bx.sw 90 (5000 + i)) st.env) (ofE ts l (withX l s.1) t.kind k ++ [(14, .own 14 0), (54, .d (slK .i64 b)), (55, .d (.int .i64 b.length)), (56, .d (.int .i64 ((i + 1 : Nat) : Int)))]) →
              OwnLeS (Go.Bx.sw 90 (5000 + i)) st.own ([(900, rowX (withX l (s1.1.set i (s1.1.getD i 0 - (min (b.getD i 0) (s1.1.getD i 0))))))] ++ [(14, .fix (cT t))]) → own? st.own 30 = some (.lit 35 1 s1.2.length (putV (nCC s1.2) i [.osl 90])) →
              (∃ n F, own? st.own 90 = some (.row 37 2 n F) ∧ n = g.length + 1 ∧ ∀ q, q < g.length + 1 → F q = cC ((g ++ [(t.id, (min (b.getD i 0) (s1.1.getD i 0)))]).getD q (0, 0))) →
              (∀ j, j ≠ i → own? st.own (5000 + j) = own? (nOC s1.2) (5000 + j)) →
              Wk c st (ofSt ts l (withX l s.1) t.kind k (s1.1.set i (s1.1.getD i 0 - (min (b.getD i 0) (s1.1.getD i 0))), s1.2.set i (g ++ [(t.id, (min (b.getD i 0) (s1.1.getD i 0)))])) [(14, .own 14 0), (54, .d (slK .i64 b)), (55, .d (.int .i64 b.length)), (56, .d (.int .i64 ((i + 1 : Nat) : Int)))] [(14, .fix (cT t))] [14]) := fun st q1 q2 q3 q4 q5 => by
            obtain ⟨n, F, q6, q7, q8⟩ := q4
            have := Wk.nestPush (c := c) (st := st) (dx := ((0, 0) : Int × Int)) (cells := cC) (K := 5000) (K' := 30) (τ := 0) (e' := 35) (e := 37) (sz := 2) (G := s1.2) 90 i (g ++ [(t.id, (min (b.getD i 0) (s1.1.getD i 0)))]) [] hfn (by omega) (by omega) (by omega) (by simp) (by simp) (N := [30, 900, 14]) rfl rfl q1 q2 hil2 (by simp) q3 ⟨n, F, q6, by simp; omega, fun q hq => q8 q (by simpa using hq)⟩ q5
            unfold ofSt
            simp only [List.length_set]
            exact this
          by_cases hg0 : g.length ≤ 0
          · rw [if_pos hg0] at hnth
            have hgn : g = [] := List.eq_nil_of_length_eq_zero (by omega)
            subst hgn
            simp only [hnth, List.length_nil, own?_setO, own?_nestD, own?_delC, own?_delC1, own?_delC2, ne_lo', ne_hi, mem_nmN, vcb, ↓evSo_some, ↓reduceIte, reduceCtorEq, seval]
            repeat' first
                | refine And.intro (fun h => ?_) (fun h => ?_)
                | refine And.intro (by first | omega | (simp only [maxLen, decide_eq_true_eq, decide_eq_false_iff_not] at *; omega)) ?_
                | (refine TR.aslO rfl rfl rfl rfl trivial (Nat.le_of_ble_eq_true rfl) ?_
                   try simp only [hnth, own?_setO, own?_nestD, own?_delC, own?_delC1, own?_delC2, ne_lo', ne_hi, mem_nmN, vcb, ↓evSo_some, ↓reduceIte, reduceCtorEq, seval])
                | refine And.intro trivial ?_
                | refine And.intro rfl ?_
                | fail
            refine lopK.on (i + 1, (s1.1.set i (s1.1.getD i 0 - (min (b.getD i 0) (s1.1.getD i 0))), s1.2.set i ([] ++ [(t.id, (min (b.getD i 0) (s1.1.getD i 0)))]))) ⟨hi2, hI2, he1⟩ (by simp only; omega) ?_
            refine (hfin _ (by simp only [ofE, slT, slX, slK, ewi, own?_setO, own?_nestD, own?_delC, own?_delC1, own?_delC2, ne_lo', ne_hi, mem_nmN, List.cons_append, List.nil_append, enb, vcb, ↓evSo_some, ↓reduceIte, reduceCtorEq, seval]) (by simp only [OwnLeS, rowX, cT, hwl2, own?_setO, own?_nestD, own?_delC, own?_delC1, own?_delC2, ne_lo', ne_hi, mem_nmN, List.cons_append, List.nil_append, enb, vcb, ↓evSo_some, ↓reduceIte, reduceCtorEq, seval]; exact OLe.row rfl hrow) (by simp only [own?_setO, own?_nestD, own?_delC, own?_delC1, own?_delC2, ne_lo', ne_hi, mem_nmN, enb, vcb, ↓evSo_some, ↓reduceIte, reduceCtorEq, seval]) ⟨_, _, by simp only [own?_setO, own?_nestD, own?_delC, own?_delC1, own?_delC2, ne_lo', ne_hi, mem_nmN, enb, vcb, ↓evSo_some, ↓reduceIte, reduceCtorEq, seval]; rfl, by simp, fun q hq => ?_⟩ (fun j hj => ?_))
            · have e0 : q = 0 := by simp at hq; omega
              subst e0
              simp [litRow, cC]
            · have hji : (5000 + j = 5000 + i) = False := eq_false (by omega)
              simp only [hji, own?_setO, own?_nestD, own?_delC, own?_delC1, own?_delC2, ne_lo', ne_hi, mem_nmN, enb, vcb, ↓evSo_some, ↓reduceIte, reduceCtorEq, seval]
          · rw [if_neg hg0] at hnth
            have hrw := nC_at hgi (by omega)
            simp only [hnth, hrw, own?_setO, own?_nestD, own?_delC, own?_delC1, own?_delC2, ne_lo', ne_hi, mem_nmN, vcb, ↓evSo_some, ↓reduceIte, reduceCtorEq, seval]
            repeat' first
                | refine And.intro (fun h => ?_) (fun h => ?_)
                | refine And.intro (by first | omega | (simp only [maxLen, decide_eq_true_eq, decide_eq_false_iff_not] at *; omega)) ?_
                | (refine TR.aslO rfl rfl rfl rfl trivial (Nat.le_of_ble_eq_true rfl) ?_
                   try simp only [hnth, hrw, own?_setO, own?_nestD, own?_delC, own?_delC1, own?_delC2, ne_lo', ne_hi, mem_nmN, vcb, ↓evSo_some, ↓reduceIte, reduceCtorEq, seval])
                | refine And.intro trivial ?_
                | refine And.intro rfl ?_
                | fail
            refine ⟨by (simp [ownOk, meetL, hitL, inAnc, List.range, List.range.loop, ne_lo', ne_hi]; decide), ?_⟩
            refine lopK.on (i + 1, (s1.1.set i (s1.1.getD i 0 - (min (b.getD i 0) (s1.1.getD i 0))), s1.2.set i (g ++ [(t.id, (min (b.getD i 0) (s1.1.getD i 0)))]))) ⟨hi2, hI2, he1⟩ (by simp only; omega) ?_
            refine (hfin _ (by simp only [ofE, slT, slX, slK, ewi, own?_setO, own?_nestD, own?_delC, own?_delC1, own?_delC2, ne_lo', ne_hi, mem_nmN, List.cons_append, List.nil_append, enb, vcb, ↓evSo_some, ↓reduceIte, reduceCtorEq, seval]) (by simp only [OwnLeS, rowX, cT, hwl2, own?_setO, own?_nestD, own?_delC, own?_delC1, own?_delC2, ne_lo', ne_hi, mem_nmN, List.cons_append, List.nil_append, enb, vcb, ↓evSo_some, ↓reduceIte, reduceCtorEq, seval]; exact OLe.row rfl hrow) (by simp only [own?_setO, own?_nestD, own?_delC, own?_delC1, own?_delC2, ne_lo', ne_hi, mem_nmN, enb, vcb, ↓evSo_some, ↓reduceIte, reduceCtorEq, seval]) ⟨_, _, by simp only [own?_setO, own?_nestD, own?_delC, own?_delC1, own?_delC2, ne_lo', ne_hi, mem_nmN, enb, vcb, ↓evSo_some, ↓reduceIte, reduceCtorEq, seval]; rfl, by simp, fun q hq => ?_⟩ (fun j hj => ?_))
            · by_cases e : q < g.length
              · simp [e, cC, List.getElem?_append_left e]
              · have e2 : q = g.length := by omega
                subst e2
                simp [litRow, cC]
            · have hji : (5000 + j = 5000 + i) = False := eq_false (by omega)
              simp only [hji, own?_setO, own?_nestD, own?_delC, own?_delC1, own?_delC2, ne_lo', ne_hi, mem_nmN, enb, vcb, ↓evSo_some, ↓reduceIte, reduceCtorEq, seval]
        · have hm : ¬ 0 < (min (b.getD i 0) (s1.1.getD i 0)) := by have := of_decide_eq_false h; omega
          have hsw : swpS t.id b i s1 = (s1.1.set i (s1.1.getD i 0 - (min (b.getD i 0) (s1.1.getD i 0))), s1.2) := by rw [swpS, if_neg hm]
          rw [hsw] at he1 hI2
          refine lopK.on (i + 1, (s1.1.set i (s1.1.getD i 0 - (min (b.getD i 0) (s1.1.getD i 0))), s1.2)) ⟨hi2, hI2, he1⟩ (by simp only; omega) ?_
          exact (Wk.of0 (ts := ts) (l := l) (rd := (withX l s.1)) (kd := t.kind) (k := k) (s := (s1.1.set i (s1.1.getD i 0 - (min (b.getD i 0) (s1.1.getD i 0))), s1.2)) (ex := [(14, .own 14 0), (54, .d (slK .i64 b)), (55, .d (.int .i64 b.length)), (56, .d (.int .i64 ((i + 1 : Nat) : Int)))]) (ox := [(14, .fix (cT t))]) (nx := [14]) hfn rfl rfl (by simp only [ofE, slT, slX, slK, ewi, own?_setO, own?_nestD, own?_delC, own?_delC1, own?_delC2, ne_lo', ne_hi, mem_nmN, List.cons_append, List.nil_append, enb, vcb, ↓evSo_some, ↓reduceIte, reduceCtorEq, seval]) (by simp only [OwnLeS, rowX, cT, hwl2, own?_setO, own?_nestD, own?_delC, own?_delC1, own?_delC2, ne_lo', ne_hi, mem_nmN, List.cons_append, List.nil_append, enb, vcb, ↓evSo_some, ↓reduceIte, reduceCtorEq, seval]; exact OLe.row rfl hrow) (by simp only [own?_setO, own?_nestD, own?_delC, own?_delC1, own?_delC2, ne_lo', ne_hi, mem_nmN, enb, vcb, ↓evSo_some, ↓reduceIte, reduceCtorEq, seval]) (fun j => by simp only [own?_setO, own?_nestD, own?_delC, own?_delC1, own?_delC2, ne_lo', ne_hi, mem_nmN, enb, vcb, ↓evSo_some, ↓reduceIte, reduceCtorEq, seval]))
      · have hib : i = b.length := by have := of_decide_eq_false h2; omega
        rw [hib, Nat.sub_self, swpR] at he1
        rw [he1] at he
        subst hib
        rw [hb1] at hI1
        have hI2 := hI1.next
        repeat' first
            | refine And.intro (fun h => ?_) (fun h => ?_)
            | refine And.intro (by first | omega | (simp only [maxLen, decide_eq_true_eq, decide_eq_false_iff_not] at *; omega)) ?_
            | (refine TR.aslO rfl rfl rfl rfl trivial (Nat.le_of_ble_eq_true rfl) ?_
               try simp only [own?_setO, own?_nestD, own?_delC, own?_delC1, own?_delC2, ne_lo', ne_hi, mem_nmN, vcb, ↓evSo_some, ↓reduceIte, reduceCtorEq, seval])
            | refine And.intro trivial ?_
            | refine And.intro rfl ?_
            | fail
        refine lopK.on (k + 1, s1, (withX l s.1), t.kind) ⟨hlt, hI2, RdOk.next hI, hbl, hbase, he⟩ (by simp only; omega) ?_
        exact Wk.of0 (ts := ts) (l := l) (rd := (withX l s.1)) (kd := t.kind) (k := k + 1) (s := s1) (ex := []) (ox := []) (nx := []) hfn rfl rfl (by simp only [ofE, slT, slX, slK, ewk, own?_setO, own?_nestD, own?_delC, own?_delC1, own?_delC2, ne_lo', ne_hi, mem_nmN, List.cons_append, List.nil_append, List.append_nil, enb, vcb, ↓evSo_some, ↓reduceIte, reduceCtorEq, seval]) (by simp only [OwnLeS, rowX, own?_setO, own?_nestD, own?_delC, own?_delC1, own?_delC2, ne_lo', ne_hi, mem_nmN, List.cons_append, List.nil_append, List.append_nil, enb, vcb, ↓evSo_some, ↓reduceIte, reduceCtorEq, seval]) (by simp only [own?_setO, own?_nestD, own?_delC, own?_delC1, own?_delC2, ne_lo', ne_hi, mem_nmN, enb, vcb, ↓evSo_some, ↓reduceIte, reduceCtorEq, seval]) (fun j => by simp only [own?_setO, own?_nestD, own?_delC, own?_delC1, own?_delC2, ne_lo', ne_hi, mem_nmN, enb, vcb, ↓evSo_some, ↓reduceIte, reduceCtorEq, seval])
    · have hkd : t.kind = kd := by simpa using h
      simp only [hkd, ne_eq, not_true_eq_false, if_false] at he
      subst hkd
      have hbase := hrx
      have hbl := hrl
      clear h
      have cb := sTBears t (rd) (by omega)
      simp only [vT, cT, slX, slK] at cb
      obtain ⟨hb1, hb2, -, -⟩ := rd_bears hX hls (show RdOk l (rd) from hro) hRt
      repeat' first
          | (first
              | refine TR.p hP (by first | exact cb) (by repeat' first | exact trivial | (intro _; assumption) | apply And.intro) ?_
              | refine TR.gp hP rfl (fun _ => by first | exact cb) (fun _ => by repeat' first | exact trivial | (intro _; assumption) | apply And.intro) ?_
              | refine TR.pv hP rfl (by first | exact cb) trivial (by repeat' first | exact trivial | (intro _; assumption) | apply And.intro) ?_
             try simp only [own?_setO, own?_nestD, own?_delC, own?_delC1, own?_delC2, ne_lo', ne_hi, mem_nmN, vcb, ↓evSo_some, ↓reduceIte, reduceCtorEq, seval])
          | refine And.intro (fun h => ?_) (fun h => ?_)
          | refine And.intro (by first | omega | (simp only [maxLen, decide_eq_true_eq, decide_eq_false_iff_not] at *; omega)) ?_
          | (refine TR.aslO rfl rfl rfl rfl trivial (Nat.le_of_ble_eq_true rfl) ?_
             try simp only [own?_setO, own?_nestD, own?_delC, own?_delC1, own?_delC2, ne_lo', ne_hi, mem_nmN, vcb, ↓evSo_some, ↓reduceIte, reduceCtorEq, seval])
          | refine And.intro trivial ?_
          | refine And.intro rfl ?_
          | fail
      generalize hb : bearsA t (rd) = b at *
      have hsl := hI.lg
      refine vcC.loop (X := Nat × Sw) (fun x => ofSt ts l (rd) t.kind k x.2 [(14, .own 14 0), (54, .d (slK .i64 b)), (55, .d (.int .i64 b.length)), (56, .d (.int .i64 x.1))] [(14, .fix (cT t))] [14])
        (fun x => x.1 ≤ b.length ∧ SwI l k x.1 x.2 ∧ swe t.id b s = swpR t.id b (b.length - x.1) x.1 x.2) (fun x => b.length - x.1) (0, s) ⟨Nat.zero_le _, hI, rfl⟩
        (Wk.of0 hfn rfl rfl (by simp only [ofE, slT, slX, slK, own?_setO, own?_nestD, own?_delC, own?_delC1, own?_delC2, ne_lo', ne_hi, mem_nmN, List.cons_append, List.nil_append, enb, vcb, ↓evSo_some, ↓reduceIte, reduceCtorEq, seval]) (by simp only [OwnLeS, rowX, cT, own?_setO, own?_nestD, own?_delC, own?_delC1, own?_delC2, ne_lo', ne_hi, mem_nmN, List.cons_append, List.nil_append, enb, vcb, ↓evSo_some, ↓reduceIte, reduceCtorEq, seval]) (by simp only [own?_setO, own?_nestD, own?_delC, own?_delC1, own?_delC2, ne_lo', ne_hi, mem_nmN, enb, vcb, ↓evSo_some, ↓reduceIte, reduceCtorEq, seval]) (fun j => by simp only [own?_setO, own?_nestD, own?_delC, own?_delC1, own?_delC2, ne_lo', ne_hi, mem_nmN, enb, vcb, ↓evSo_some, ↓reduceIte, reduceCtorEq, seval])) ?_
      rintro ⟨i, s1⟩ ⟨hi, hI1, he1⟩
      simp only at hi hI1 he1
      have hsl1 := hI1.lg
      have hwl : (withX l s1.1).length = l.length := with_len hI1.la
      simp only [ofSt, ofE, slT, slX, slK, rowX, cT, List.cons_append, List.nil_append, vcb, ↓evSo_some, ↓reduceIte, reduceCtorEq, seval]
      refine ⟨fun h2 => ?_, fun h2 => ?_⟩
      · have hi2 : i < b.length := by have := of_decide_eq_true h2; omega
        have hil : i < l.length := by omega
        have hbi := hb2 i
        have ham := hI1.am i
        have hbd : (l.getD i default).amt ≤ 1000000000000000 := by
          have := lossX_iff.1 (hX (l.getD i default) (by rw [List.getD_eq_getElem?_getD, List.getElem?_eq_getElem hil]; exact List.getElem_mem hil))
          omega
        have hwa : ((withX l s1.1).getD i default).amt = s1.1.getD i 0 := by rw [with_get hI1.la]
        have ewi : IntKind.i64.wrap ((i : Int) + 1) = ((i + 1 : Nat) : Int) := wS (by omega)
        have ew : IntKind.i64.wrap (s1.1.getD i 0 - min (b.getD i 0) (s1.1.getD i 0)) = s1.1.getD i 0 - min (b.getD i 0) (s1.1.getD i 0) := wI (by omega)
        have hI2 := hI1.step t.id (b := b) hil hbi
        rw [show b.length - i = (b.length - (i + 1)) + 1 by omega, swpR] at he1
        have hrow : ∀ q, q < (withX l s1.1).length → (if q = i then putD [.int .i64 ((withX l s1.1).getD i default).cl, .int .i64 ((withX l s1.1).getD i default).ev, .int .i64 ((withX l s1.1).getD i default).day, .int .i64 ((withX l s1.1).getD i default).per, .int .i64 (s1.1.getD i 0)] 4 [.int .i64 (s1.1.getD i 0 - min (b.getD i 0) (s1.1.getD i 0))]
            else [.int .i64 ((withX l s1.1).getD q default).cl, .int .i64 ((withX l s1.1).getD q default).ev, .int .i64 ((withX l s1.1).getD q default).day, .int .i64 ((withX l s1.1).getD q default).per, .int .i64 ((withX l s1.1).getD q default).amt] : List D) =
            [.int .i64 ((withX l (s1.1.set i (s1.1.getD i 0 - min (b.getD i 0) (s1.1.getD i 0)))).getD q default).cl, .int .i64 ((withX l (s1.1.set i (s1.1.getD i 0 - min (b.getD i 0) (s1.1.getD i 0)))).getD q default).ev, .int .i64 ((withX l (s1.1.set i (s1.1.getD i 0 - min (b.getD i 0) (s1.1.getD i 0)))).getD q default).day,
              .int .i64 ((withX l (s1.1.set i (s1.1.getD i 0 - min (b.getD i 0) (s1.1.getD i 0)))).getD q default).per, .int .i64 ((withX l (s1.1.set i (s1.1.getD i 0 - min (b.getD i 0) (s1.1.getD i 0)))).getD q default).amt] := fun q hq => by
          rw [hwl] at hq
          rw [with_get hI1.la, with_get (a := s1.1.set i _) (by rw [List.length_set]; exact hI1.la), with_get hI1.la, getD_set (by rw [hI1.la]; exact hil)]
          by_cases e : q = i
          · subst e; simp [putD]
          · rw [if_neg e, if_neg (fun h => e h.symm)]
        have hwl2 : (withX l (s1.1.set i (s1.1.getD i 0 - min (b.getD i 0) (s1.1.getD i 0)))).length = (withX l s1.1).length := by rw [hwl]; exact with_len (by rw [List.length_set]; exact hI1.la)
        simp only [hwa, ew, own?_setO, own?_nestD, own?_delC, own?_delC1, own?_delC2, ne_lo', ne_hi, mem_nmN, vcb, ↓evSo_some, ↓reduceIte, reduceCtorEq, seval]
        repeat' first
            | refine And.intro (fun h => ?_) (fun h => ?_)
            | refine And.intro (by first | omega | (simp only [maxLen, decide_eq_true_eq, decide_eq_false_iff_not] at *; omega)) ?_
            | (refine TR.aslO rfl rfl rfl rfl trivial (Nat.le_of_ble_eq_true rfl) ?_
               try simp only [hwa, ew, own?_setO, own?_nestD, own?_delC, own?_delC1, own?_delC2, ne_lo', ne_hi, mem_nmN, vcb, ↓evSo_some, ↓reduceIte, reduceCtorEq, seval])
            | refine And.intro trivial ?_
            | refine And.intro rfl ?_
            | fail
        · have hm : 0 < (min (b.getD i 0) (s1.1.getD i 0)) := by have := of_decide_eq_true h; omega
          clear h
          have hil2 : i < s1.2.length := by omega
          have hgi : s1.2[i]? = some s1.2[i] := List.getElem?_eq_getElem hil2
          have hgd : s1.2.getD i [] = s1.2[i] := by rw [List.getD_eq_getElem?_getD, hgi]; rfl
          have hgl := hI1.gl i _ hgi
          rw [if_neg (Nat.lt_irrefl i)] at hgl
          have hsw : swpS t.id b i s1 = (s1.1.set i (s1.1.getD i 0 - (min (b.getD i 0) (s1.1.getD i 0))), s1.2.set i (s1.2[i] ++ [(t.id, (min (b.getD i 0) (s1.1.getD i 0)))])) := by rw [swpS, if_pos hm, hgd]
          rw [hsw] at he1 hI2
          generalize s1.2[i] = g at *
          have hnth := nestC_nth (dx := ((0, 0) : Int × Int)) (cells := cC) (K := 5000) (τ := 0) (sz := 2) (i := 0) hgi
          rw [Nat.zero_add] at hnth
          have hfin : ∀ (st : St), EnvLe (renE (Go.Bx.sw 90 (5000 + i)) st.env) (ofE ts l (rd) t.kind k ++ [(14, .own 14 0), (54, .d (slK .i64 b)), (55, .d (.int .i64 b.length)), (56, .d (.int .i64 ((i + 1 : Nat) : Int)))]) →
              OwnLeS (Go.Bx.sw 90 (5000 + i)) st.own ([(900, rowX (withX l (s1.1.set i (s1.1.getD i 0 - (min (b.getD i 0) (s1.1.getD i 0))))))] ++ [(14, .fix (cT t))]) → own? st.own 30 = some (.lit 35 1 s1.2.length (putV (nCC s1.2) i [.osl 90])) →
              (∃ n F, own? st.own 90 = some (.row 37 2 n F) ∧ n = g.length + 1 ∧ ∀ q, q < g.length + 1 → F q = cC ((g ++ [(t.id, (min (b.getD i 0) (s1.1.getD i 0)))]).getD q (0, 0))) →
              (∀ j, j ≠ i → own? st.own (5000 + j) = own? (nOC s1.2) (5000 + j)) →
              Wk c st (ofSt ts l (rd) t.kind k (s1.1.set i (s1.1.getD i 0 - (min (b.getD i 0) (s1.1.getD i 0))), s1.2.set i (g ++ [(t.id, (min (b.getD i 0) (s1.1.getD i 0)))])) [(14, .own 14 0), (54, .d (slK .i64 b)), (55, .d (.int .i64 b.length)), (56, .d (.int .i64 ((i + 1 : Nat) : Int)))] [(14, .fix (cT t))] [14]) := fun st q1 q2 q3 q4 q5 => by
            obtain ⟨n, F, q6, q7, q8⟩ := q4
            have := Wk.nestPush (c := c) (st := st) (dx := ((0, 0) : Int × Int)) (cells := cC) (K := 5000) (K' := 30) (τ := 0) (e' := 35) (e := 37) (sz := 2) (G := s1.2) 90 i (g ++ [(t.id, (min (b.getD i 0) (s1.1.getD i 0)))]) [] hfn (by omega) (by omega) (by omega) (by simp) (by simp) (N := [30, 900, 14]) rfl rfl q1 q2 hil2 (by simp) q3 ⟨n, F, q6, by simp; omega, fun q hq => q8 q (by simpa using hq)⟩ q5
            unfold ofSt
            simp only [List.length_set]
            exact this
          by_cases hg0 : g.length ≤ 0
          · rw [if_pos hg0] at hnth
            have hgn : g = [] := List.eq_nil_of_length_eq_zero (by omega)
            subst hgn
            simp only [hnth, List.length_nil, own?_setO, own?_nestD, own?_delC, own?_delC1, own?_delC2, ne_lo', ne_hi, mem_nmN, vcb, ↓evSo_some, ↓reduceIte, reduceCtorEq, seval]
            repeat' first
                | refine And.intro (fun h => ?_) (fun h => ?_)
                | refine And.intro (by first | omega | (simp only [maxLen, decide_eq_true_eq, decide_eq_false_iff_not] at *; omega)) ?_
                | (refine TR.aslO rfl rfl rfl rfl trivial (Nat.le_of_ble_eq_true rfl) ?_
                   try simp only [hnth, own?_setO, own?_nestD, own?_delC, own?_delC1, own?_delC2, ne_lo', ne_hi, mem_nmN, vcb, ↓evSo_some, ↓reduceIte, reduceCtorEq, seval])
                | refine And.intro trivial ?_
                | refine And.intro rfl ?_
                | fail
            refine lopK.on (i + 1, (s1.1.set i (s1.1.getD i 0 - (min (b.getD i 0) (s1.1.getD i 0))), s1.2.set i ([] ++ [(t.id, (min (b.getD i 0) (s1.1.getD i 0)))]))) ⟨hi2, hI2, he1⟩ (by simp only; omega) ?_
            refine (hfin _ (by simp only [ofE, slT, slX, slK, ewi, own?_setO, own?_nestD, own?_delC, own?_delC1, own?_delC2, ne_lo', ne_hi, mem_nmN, List.cons_append, List.nil_append, enb, vcb, ↓evSo_some, ↓reduceIte, reduceCtorEq, seval]) (by simp only [OwnLeS, rowX, cT, hwl2, own?_setO, own?_nestD, own?_delC, own?_delC1, own?_delC2, ne_lo', ne_hi, mem_nmN, List.cons_append, List.nil_append, enb, vcb, ↓evSo_some, ↓reduceIte, reduceCtorEq, seval]; exact OLe.row rfl hrow) (by simp only [own?_setO, own?_nestD, own?_delC, own?_delC1, own?_delC2, ne_lo', ne_hi, mem_nmN, enb, vcb, ↓evSo_some, ↓reduceIte, reduceCtorEq, seval]) ⟨_, _, by simp only [own?_setO, own?_nestD, own?_delC, own?_delC1, own?_delC2, ne_lo', ne_hi, mem_nmN, enb, vcb, ↓evSo_some, ↓reduceIte, reduceCtorEq, seval]; rfl, by simp, fun q hq => ?_⟩ (fun j hj => ?_))
            · have e0 : q = 0 := by simp at hq; omega
              subst e0
              simp [litRow, cC]
            · have hji : (5000 + j = 5000 + i) = False := eq_false (by omega)
              simp only [hji, own?_setO, own?_nestD, own?_delC, own?_delC1, own?_delC2, ne_lo', ne_hi, mem_nmN, enb, vcb, ↓evSo_some, ↓reduceIte, reduceCtorEq, seval]
          · rw [if_neg hg0] at hnth
            have hrw := nC_at hgi (by omega)
            simp only [hnth, hrw, own?_setO, own?_nestD, own?_delC, own?_delC1, own?_delC2, ne_lo', ne_hi, mem_nmN, vcb, ↓evSo_some, ↓reduceIte, reduceCtorEq, seval]
            repeat' first
                | refine And.intro (fun h => ?_) (fun h => ?_)
                | refine And.intro (by first | omega | (simp only [maxLen, decide_eq_true_eq, decide_eq_false_iff_not] at *; omega)) ?_
                | (refine TR.aslO rfl rfl rfl rfl trivial (Nat.le_of_ble_eq_true rfl) ?_
                   try simp only [hnth, hrw, own?_setO, own?_nestD, own?_delC, own?_delC1, own?_delC2, ne_lo', ne_hi, mem_nmN, vcb, ↓evSo_some, ↓reduceIte, reduceCtorEq, seval])
                | refine And.intro trivial ?_
                | refine And.intro rfl ?_
                | fail
            refine ⟨by (simp [ownOk, meetL, hitL, inAnc, List.range, List.range.loop, ne_lo', ne_hi]; decide), ?_⟩
            refine lopK.on (i + 1, (s1.1.set i (s1.1.getD i 0 - (min (b.getD i 0) (s1.1.getD i 0))), s1.2.set i (g ++ [(t.id, (min (b.getD i 0) (s1.1.getD i 0)))]))) ⟨hi2, hI2, he1⟩ (by simp only; omega) ?_
            refine (hfin _ (by simp only [ofE, slT, slX, slK, ewi, own?_setO, own?_nestD, own?_delC, own?_delC1, own?_delC2, ne_lo', ne_hi, mem_nmN, List.cons_append, List.nil_append, enb, vcb, ↓evSo_some, ↓reduceIte, reduceCtorEq, seval]) (by simp only [OwnLeS, rowX, cT, hwl2, own?_setO, own?_nestD, own?_delC, own?_delC1, own?_delC2, ne_lo', ne_hi, mem_nmN, List.cons_append, List.nil_append, enb, vcb, ↓evSo_some, ↓reduceIte, reduceCtorEq, seval]; exact OLe.row rfl hrow) (by simp only [own?_setO, own?_nestD, own?_delC, own?_delC1, own?_delC2, ne_lo', ne_hi, mem_nmN, enb, vcb, ↓evSo_some, ↓reduceIte, reduceCtorEq, seval]) ⟨_, _, by simp only [own?_setO, own?_nestD, own?_delC, own?_delC1, own?_delC2, ne_lo', ne_hi, mem_nmN, enb, vcb, ↓evSo_some, ↓reduceIte, reduceCtorEq, seval]; rfl, by simp, fun q hq => ?_⟩ (fun j hj => ?_))
            · by_cases e : q < g.length
              · simp [e, cC, List.getElem?_append_left e]
              · have e2 : q = g.length := by omega
                subst e2
                simp [litRow, cC]
            · have hji : (5000 + j = 5000 + i) = False := eq_false (by omega)
              simp only [hji, own?_setO, own?_nestD, own?_delC, own?_delC1, own?_delC2, ne_lo', ne_hi, mem_nmN, enb, vcb, ↓evSo_some, ↓reduceIte, reduceCtorEq, seval]
        · have hm : ¬ 0 < (min (b.getD i 0) (s1.1.getD i 0)) := by have := of_decide_eq_false h; omega
          have hsw : swpS t.id b i s1 = (s1.1.set i (s1.1.getD i 0 - (min (b.getD i 0) (s1.1.getD i 0))), s1.2) := by rw [swpS, if_neg hm]
          rw [hsw] at he1 hI2
          refine lopK.on (i + 1, (s1.1.set i (s1.1.getD i 0 - (min (b.getD i 0) (s1.1.getD i 0))), s1.2)) ⟨hi2, hI2, he1⟩ (by simp only; omega) ?_
          exact (Wk.of0 (ts := ts) (l := l) (rd := (rd)) (kd := t.kind) (k := k) (s := (s1.1.set i (s1.1.getD i 0 - (min (b.getD i 0) (s1.1.getD i 0))), s1.2)) (ex := [(14, .own 14 0), (54, .d (slK .i64 b)), (55, .d (.int .i64 b.length)), (56, .d (.int .i64 ((i + 1 : Nat) : Int)))]) (ox := [(14, .fix (cT t))]) (nx := [14]) hfn rfl rfl (by simp only [ofE, slT, slX, slK, ewi, own?_setO, own?_nestD, own?_delC, own?_delC1, own?_delC2, ne_lo', ne_hi, mem_nmN, List.cons_append, List.nil_append, enb, vcb, ↓evSo_some, ↓reduceIte, reduceCtorEq, seval]) (by simp only [OwnLeS, rowX, cT, hwl2, own?_setO, own?_nestD, own?_delC, own?_delC1, own?_delC2, ne_lo', ne_hi, mem_nmN, List.cons_append, List.nil_append, enb, vcb, ↓evSo_some, ↓reduceIte, reduceCtorEq, seval]; exact OLe.row rfl hrow) (by simp only [own?_setO, own?_nestD, own?_delC, own?_delC1, own?_delC2, ne_lo', ne_hi, mem_nmN, enb, vcb, ↓evSo_some, ↓reduceIte, reduceCtorEq, seval]) (fun j => by simp only [own?_setO, own?_nestD, own?_delC, own?_delC1, own?_delC2, ne_lo', ne_hi, mem_nmN, enb, vcb, ↓evSo_some, ↓reduceIte, reduceCtorEq, seval]))
      · have hib : i = b.length := by have := of_decide_eq_false h2; omega
        rw [hib, Nat.sub_self, swpR] at he1
        rw [he1] at he
        subst hib
        rw [hb1] at hI1
        have hI2 := hI1.next
        repeat' first
            | refine And.intro (fun h => ?_) (fun h => ?_)
            | refine And.intro (by first | omega | (simp only [maxLen, decide_eq_true_eq, decide_eq_false_iff_not] at *; omega)) ?_
            | (refine TR.aslO rfl rfl rfl rfl trivial (Nat.le_of_ble_eq_true rfl) ?_
               try simp only [own?_setO, own?_nestD, own?_delC, own?_delC1, own?_delC2, ne_lo', ne_hi, mem_nmN, vcb, ↓evSo_some, ↓reduceIte, reduceCtorEq, seval])
            | refine And.intro trivial ?_
            | refine And.intro rfl ?_
            | fail
        refine lopK.on (k + 1, s1, (rd), t.kind) ⟨hlt, hI2, hro, hbl, hbase, he⟩ (by simp only; omega) ?_
        exact Wk.of0 (ts := ts) (l := l) (rd := (rd)) (kd := t.kind) (k := k + 1) (s := s1) (ex := []) (ox := []) (nx := []) hfn rfl rfl (by simp only [ofE, slT, slX, slK, ewk, own?_setO, own?_nestD, own?_delC, own?_delC1, own?_delC2, ne_lo', ne_hi, mem_nmN, List.cons_append, List.nil_append, List.append_nil, enb, vcb, ↓evSo_some, ↓reduceIte, reduceCtorEq, seval]) (by simp only [OwnLeS, rowX, own?_setO, own?_nestD, own?_delC, own?_delC1, own?_delC2, ne_lo', ne_hi, mem_nmN, List.cons_append, List.nil_append, List.append_nil, enb, vcb, ↓evSo_some, ↓reduceIte, reduceCtorEq, seval]) (by simp only [own?_setO, own?_nestD, own?_delC, own?_delC1, own?_delC2, ne_lo', ne_hi, mem_nmN, enb, vcb, ↓evSo_some, ↓reduceIte, reduceCtorEq, seval]) (fun j => by simp only [own?_setO, own?_nestD, own?_delC, own?_delC1, own?_delC2, ne_lo', ne_hi, mem_nmN, enb, vcb, ↓evSo_some, ↓reduceIte, reduceCtorEq, seval])
  · have hkl : k = (orderT ts).length := by have := of_decide_eq_false h1; omega
    rw [hkl, List.drop_length, twr] at he
    have hsl := hI.lg
    have hwl : (withX l s.1).length = l.length := with_len hI.la
    simp only [own?_setO, own?_nestD, own?_delC, own?_delC1, own?_delC2, ne_lo', ne_hi, mem_nmN, vcb, ↓evSo_some, ↓reduceIte, reduceCtorEq, seval]
    repeat' first
        | refine And.intro (fun h => ?_) (fun h => ?_)
        | refine And.intro (by first | omega | (simp only [maxLen, decide_eq_true_eq, decide_eq_false_iff_not] at *; omega)) ?_
        | (refine TR.aslO rfl rfl rfl rfl trivial (Nat.le_of_ble_eq_true rfl) ?_
           try simp only [own?_setO, own?_nestD, own?_delC, own?_delC1, own?_delC2, ne_lo', ne_hi, mem_nmN, vcb, ↓evSo_some, ↓reduceIte, reduceCtorEq, seval])
        | refine And.intro trivial ?_
        | refine And.intro rfl ?_
        | fail
    refine vcC.loop (X := Nat) (fun i => ⟨[(9, .osl 30), (17, .osl 96), (97, .osl 900), (98, .d (.int .i64 l.length)), (99, .d (.int .i64 i))],
        (30, .lit 35 1 s.2.length (nCC s.2)) :: ([(900, rowX (withX l s.1)), (96, .row 3 1 l.length (fun j => [.int .i64 ((s.1.take i).getD j 0)]))] ++ nOC s.2), [30, 900, 96] ++ nmN 5000 s.2.length⟩)
      (fun i => i ≤ l.length) (fun i => l.length - i) 0 (Nat.zero_le _) ?_ ?_
    · exact Wk.nestKeep (dx := ((0, 0) : Int × Int)) (cells := cC) (K := 5000) (K' := 30) (τ := 0) (e' := 35) (e := 37) (sz := 2) (G := s.2) (A := [(900, rowX (withX l s.1)), (96, .row 3 1 l.length (fun j => [.int .i64 ((s.1.take 0).getD j 0)]))]) (N := [30, 900, 96]) 0 0 [] hfn (by omega) (by omega) (by omega) (by omega) (by simp) (by simp) rfl rfl (by simp only [hwl, own?_setO, own?_nestD, own?_delC, own?_delC1, own?_delC2, ne_lo', ne_hi, mem_nmN, enb, vcb, ↓evSo_some, ↓reduceIte, reduceCtorEq, seval]) (by simp only [OwnLeS, rowX, own?_setO, own?_nestD, own?_delC, own?_delC1, own?_delC2, ne_lo', ne_hi, mem_nmN, enb, vcb, ↓evSo_some, ↓reduceIte, reduceCtorEq, seval]; exact OLe.row rfl fun i _ => by simp) (by simp only [own?_setO, own?_nestD, own?_delC, own?_delC1, own?_delC2, ne_lo', ne_hi, mem_nmN, enb, vcb, ↓evSo_some, ↓reduceIte, reduceCtorEq, seval]) (fun j => by simp only [own?_setO, own?_nestD, own?_delC, own?_delC1, own?_delC2, ne_lo', ne_hi, mem_nmN, enb, vcb, ↓evSo_some, ↓reduceIte, reduceCtorEq, seval])
    rintro i hi
    simp only [rowX, List.cons_append, List.nil_append, vcb, ↓evSo_some, ↓reduceIte, reduceCtorEq, seval]
    refine ⟨fun h2 => ?_, fun h2 => ?_⟩
    · have hi2 : i < l.length := by have := of_decide_eq_true h2; omega
      have hwa : ((withX l s.1).getD i default).amt = s.1.getD i 0 := by rw [with_get hI.la]
      have ewi : IntKind.i64.wrap ((i : Int) + 1) = ((i + 1 : Nat) : Int) := wS (by omega)
      have hrw : ∀ q, q < l.length → (if q = i then putD [.int .i64 ((s.1.take i).getD i 0)] 0 [.int .i64 (s.1.getD i 0)] else [.int .i64 ((s.1.take i).getD q 0)] : List D) = [.int .i64 ((s.1.take (i + 1)).getD q 0)] := fun q hq => by
        have hla := hI.la
        by_cases e : q = i
        · subst e; simp [putD, List.getElem?_take]
        · rw [if_neg e]
          simp only [List.getD_eq_getElem?_getD, List.getElem?_take]
          by_cases e2 : q < i
          · rw [if_pos e2, if_pos (by omega)]
          · rw [if_neg e2, if_neg (by omega)]
      simp only [hwa, own?_setO, own?_nestD, own?_delC, own?_delC1, own?_delC2, ne_lo', ne_hi, mem_nmN, vcb, ↓evSo_some, ↓reduceIte, reduceCtorEq, seval]
      repeat' first
          | refine And.intro (fun h => ?_) (fun h => ?_)
          | refine And.intro (by first | omega | (simp only [maxLen, decide_eq_true_eq, decide_eq_false_iff_not] at *; omega)) ?_
          | (refine TR.aslO rfl rfl rfl rfl trivial (Nat.le_of_ble_eq_true rfl) ?_
             try simp only [hwa, own?_setO, own?_nestD, own?_delC, own?_delC1, own?_delC2, ne_lo', ne_hi, mem_nmN, vcb, ↓evSo_some, ↓reduceIte, reduceCtorEq, seval])
          | refine And.intro trivial ?_
          | refine And.intro rfl ?_
          | fail
      refine lopK.on (i + 1) hi2 (by omega) ?_
      exact Wk.nestKeep (dx := ((0, 0) : Int × Int)) (cells := cC) (K := 5000) (K' := 30) (τ := 0) (e' := 35) (e := 37) (sz := 2) (G := s.2) (A := [(900, rowX (withX l s.1)), (96, .row 3 1 l.length (fun j => [.int .i64 ((s.1.take (i + 1)).getD j 0)]))]) (N := [30, 900, 96]) 0 0 [] hfn (by omega) (by omega) (by omega) (by omega) (by simp) (by simp) rfl rfl (by simp only [ewi, own?_setO, own?_nestD, own?_delC, own?_delC1, own?_delC2, ne_lo', ne_hi, mem_nmN, enb, vcb, ↓evSo_some, ↓reduceIte, reduceCtorEq, seval]) (by simp only [OwnLeS, rowX, own?_setO, own?_nestD, own?_delC, own?_delC1, own?_delC2, ne_lo', ne_hi, mem_nmN, enb, vcb, ↓evSo_some, ↓reduceIte, reduceCtorEq, seval]; exact OLe.row rfl hrw) (by simp only [own?_setO, own?_nestD, own?_delC, own?_delC1, own?_delC2, ne_lo', ne_hi, mem_nmN, enb, vcb, ↓evSo_some, ↓reduceIte, reduceCtorEq, seval]) (fun j => by simp only [own?_setO, own?_nestD, own?_delC, own?_delC1, own?_delC2, ne_lo', ne_hi, mem_nmN, enb, vcb, ↓evSo_some, ↓reduceIte, reduceCtorEq, seval])
    · have hil : i = l.length := by have := of_decide_eq_false h2; omega
      have htk : s.1.take l.length = s.1 := List.take_of_length_le (by rw [hI.la]; exact Nat.le_refl _)
      subst hil
      rw [htk]
      repeat' first
          | refine And.intro (fun h => ?_) (fun h => ?_)
          | refine And.intro (by first | omega | (simp only [maxLen, decide_eq_true_eq, decide_eq_false_iff_not] at *; omega)) ?_
          | (refine TR.aslO rfl rfl rfl rfl trivial (Nat.le_of_ble_eq_true rfl) ?_
             try simp only [own?_setO, own?_nestD, own?_delC, own?_delC1, own?_delC2, ne_lo', ne_hi, mem_nmN, vcb, ↓evSo_some, ↓reduceIte, reduceCtorEq, seval])
          | refine And.intro trivial ?_
          | refine And.intro rfl ?_
          | fail
      refine RetK.mk _ ((Wk.nestPub (dx := ((0, 0) : Int × Int)) (cells := cC) (K' := 30) (K := 5000) (τ := 0) (e' := 35) (e := 37) (sz := 2) (G := s.2) (own' := [(30, .row 35 1 s.2.length (nestD (0, 0) cC 2 s.2)), (96, .row 3 1 l.length (fun j => [.int .i64 (s.1.getD j 0)]))]) (by simp only [vcb, ↓evSo_some, ↓reduceIte, reduceCtorEq, seval])
          (fun i g hg1 hg2 => by simp only [ne_lo', nC_at hg1 hg2, vcb, ↓evSo_some, ↓reduceIte, reduceCtorEq, seval]) (by simp [keysO]) (fun k o hm => by
            simp only [List.mem_cons, List.not_mem_nil, or_false, Prod.mk.injEq] at hm
            rcases hm with ⟨rfl, rfl⟩ | ⟨rfl, rfl⟩
            · exact .inl ⟨rfl, rfl⟩
            · exact .inr ⟨by omega, by simp only [vcb, ↓evSo_some, ↓reduceIte, reduceCtorEq, seval]⟩) (fun i hi => by simp [keysO]; omega)).trans ((Wk.pub 30 rfl).trans (Wk.pub 96 rfl))) (by simp only [rs11, rsb, vcb, ↓evSo_some, ↓reduceIte, reduceCtorEq, seval]) ?_ trivial
      simp only [rs11, rsb, vcb, ↓evSo_some, ↓reduceIte, reduceCtorEq, seval]
      rw [hof, he]
      exact VLe.tups ⟨VLe.refl _, VLe.sl hI.la.symm (fun _ => rfl) id fun i hi => rfl, VLe.refl _, trivial⟩
end Go.Proofs.Ytgpckelpmincmaa
end
section
set_option linter.unusedSimpArgs false
set_option linter.unusedVariables false
namespace Go.Proofs.Ytgpckelpmincmaa
set_option linter.unusedSimpArgs false
set_option linter.unusedVariables false
open Go.Bx
set_option maxRecDepth 10000
theorem VLe.slD {full full' : Bool} {sz n : Nat} {f f' : Nat → List D} (hb : full' = true → full = true) (hf : ∀ i, i < n → (f i).length = (f' i).length ∧ ∀ (j : Nat) (x y : D), (f i)[j]? = some x → (f' i)[j]? = some y → VLe (.d x) (.d y)) : VLe (.d (.sl full sz n f)) (.d (.sl full' sz n f')) := by
  intro β E w v hv
  cases hv with
  | d _ _ hv =>
    refine .d _ _ ?_
    generalize hN : n = m at hv ⊢
    cases hv with
    | nil _ _ _ _ => exact .nil _ _ _ _
    | sl _ _ _ _ b off c g hc hfu hl hcell hrel =>
      subst hN
      refine .sl _ _ _ _ b off c g hc (fun h => hfu (hb h)) (fun i hi => by rw [← (hf i hi).1]; exact hl i hi) hcell (fun i j hi hj y hy => ?_)
      have hlt : j < (f i).length := by rw [hl i hi]; exact hj
      have h1 := hrel i j hi hj _ (List.getElem?_eq_getElem hlt)
      have h2 := (hf i hi).2 j _ y (List.getElem?_eq_getElem hlt) hy
      exact rel_d (h2 β E w _ (.d _ _ h1))
def exT : List Tr := [⟨2, 2, 1, 100, 0, 100, 50, 0, 1⟩, ⟨1, 1, 1, 100, 5000, 0, 0, 0, 1⟩]
def exL : List Ls := [⟨1, 0, 5, 0, 260⟩]
theorem ex_of : ofT exT exL = ([[(1, 130), (2, 30)]], [100], 0) := by
  have h1 : mayT exT exL = 0 := by decide +kernel
  have h2 : refT exT exL = ([100], [[(1, 130), (2, 30)]]) := by decide +kernel
  rw [ofT, if_neg (by rw [h1]; simp), tower_ref, h2]
theorem ex_order : orderT exT = [1, 0] := by rw [order_eq]; decide +kernel
theorem ex_sums : sumsT exT [[(1, 130), (2, 30)]] = [30, 130] := by decide +kernel
def eT : V := .d (.sl true 9 2 (litRow 9 [.int .i64 2, .int .i64 2, .int .i64 1, .int .i64 100, .int .i64 0, .int .i64 100, .int .i64 50, .int .i64 0, .int .i64 1, .int .i64 1, .int .i64 1, .int .i64 1, .int .i64 100, .int .i64 5000, .int .i64 0, .int .i64 0, .int .i64 0, .int .i64 1]))
def eL : V := .d (.sl true 5 1 (litRow 5 [.int .i64 1, .int .i64 0, .int .i64 5, .int .i64 0, .int .i64 260]))
def eC : V := .d (.sl true 1 1 (litRow 1 [.sl true 2 2 (litRow 2 [.int .i64 1, .int .i64 130, .int .i64 2, .int .i64 30])]))
def eI1 : V := .d (.sl true 1 1 (litRow 1 [.int .i64 100]))
def eI2 : V := .d (.sl true 1 2 (litRow 1 [.int .i64 1, .int .i64 0]))
def eI3 : V := .d (.sl true 1 2 (litRow 1 [.int .i64 30, .int .i64 130]))
theorem vle_exT : VLe eT (.d (slT exT)) :=
  VLe.sl rfl (fun _ => rfl) (fun h => by cases h) fun i hi => by
    have : i = 0 ∨ i = 1 := by omega
    rcases this with rfl | rfl <;> rfl
theorem vle_exL : VLe eL (.d (slX exL)) :=
  VLe.sl rfl (fun _ => rfl) (fun h => by cases h) fun i hi => by
    have : i = 0 := by omega
    subst this; rfl
theorem vle_exC : VLe eC (.d (gC [[(1, 130), (2, 30)]])) := by
  refine VLe.slD (fun h => by cases h) fun i hi => ?_
  have : i = 0 := by omega
  subst this
  refine ⟨rfl, fun j x y hx hy => ?_⟩
  have hj : j = 0 := by
    have := (List.getElem?_eq_some_iff.1 hy).1
    simp [nestD] at this; exact this
  subst hj
  simp [litRow] at hx
  simp [nestD] at hy
  subst hx; subst hy
  exact VLe.sl rfl (fun _ => rfl) (fun h => by cases h) fun i hi => by
    have : i = 0 ∨ i = 1 := by omega
    rcases this with rfl | rfl <;> rfl
set_option maxHeartbeats 2000000 in
theorem lAwake : Ctr Try.prog 9 [] [] (.d (.bool true)) [] [] := by
  have c1 := sTOf exT exL (by decide) (by decide)
  rw [ex_of] at c1
  have c1 := c1.arg (args := [eT, eL]) ⟨vle_exT, vle_exL, trivial⟩
  have c2 := sOrder exT (by decide)
  rw [ex_order] at c2
  have c2 := c2.arg (args := [eT]) ⟨vle_exT, trivial⟩
  have c3 := sSums exT [[(1, 130), (2, 30)]] (by decide) (by decide) (by decide)
  rw [ex_sums] at c3
  have c3 := c3.arg (args := [eT, .d (gC [[(1, 130), (2, 30)]])]) ⟨vle_exT, VLe.refl _, trivial⟩
  have c4 := (rSameC [[(1, 130), (2, 30)]] [[(1, 130), (2, 30)]] (by decide) (by decide) (by decide) (by decide)).arg (args := [.d (gC [[(1, 130), (2, 30)]]), eC]) ⟨VLe.refl _, vle_exC, trivial⟩
  have c5 := (s17 [100] [100] (by decide)).arg (args := [.d (slK .i64 [100]), eI1]) ⟨VLe.refl _, LitI.vle (by repeat constructor) (by rfl), trivial⟩
  have c6 := (s17 [1, 0] [1, 0] (by decide)).arg (args := [.d (slK .i64 [1, 0]), eI2]) ⟨VLe.refl _, LitI.vle (by repeat constructor) (by rfl), trivial⟩
  have c7 := (s17 [30, 130] [30, 130] (by decide)).arg (args := [.d (slK .i64 [30, 130]), eI3]) ⟨VLe.refl _, LitI.vle (by repeat constructor) (by rfl), trivial⟩
  simp only [gC, slK, eT, eL, eC, eI1, eI2, eI3, List.length_cons, List.length_nil, Nat.zero_add, Nat.reduceAdd, decide_true] at c1 c2 c3 c4 c5 c6 c7
  refine ctr_pure Try.func9 ok9 rfl cc9 cr9 Try.ntmps9 (by simp) rfl rfl ?_; intro c hP hfn; simp only [kc9, vcb, ↓evSo_some, ↓reduceIte, reduceCtorEq, seval]
  repeat' first
      | (first
          | refine TR.p hP (by first | exact c1 | exact c2 | exact c3 | exact c4 | exact c5 | exact c6 | exact c7) (by repeat' first | exact trivial | (intro _; assumption) | apply And.intro) ?_
          | refine TR.gp hP rfl (fun _ => by first | exact c1 | exact c2 | exact c3 | exact c4 | exact c5 | exact c6 | exact c7) (fun _ => by repeat' first | exact trivial | (intro _; assumption) | apply And.intro) ?_
          | refine TR.pv hP rfl (by first | exact c1 | exact c2 | exact c3 | exact c4 | exact c5 | exact c6 | exact c7) trivial (by repeat' first | exact trivial | (intro _; assumption) | apply And.intro) ?_
         try simp only [vcb, ↓evSo_some, ↓reduceIte, reduceCtorEq, seval])
      | refine And.intro (fun h => ?_) (fun h => ?_)
      | refine And.intro (by first | omega | (simp only [maxLen, decide_eq_true_eq, decide_eq_false_iff_not] at *; omega)) ?_
      | (refine TR.aslO rfl rfl rfl rfl trivial (Nat.le_of_ble_eq_true rfl) ?_
         try simp only [vcb, ↓evSo_some, ↓reduceIte, reduceCtorEq, seval])
      | refine And.intro trivial ?_
      | refine And.intro rfl ?_
      | fail
  exact RetK.pure (by simp only [rs9, rsb, vcb, ↓evSo_some, ↓reduceIte, reduceCtorEq, seval]) (by (simp only [rs9, rsb, vcb, ↓evSo_some, ↓reduceIte, reduceCtorEq, seval, enb, vcb, ↓evSo_some, ↓reduceIte, reduceCtorEq, seval]) <;> (first | simp))
end Go.Proofs.Ytgpckelpmincmaa
end
