/- EV (ours), part T: a region that draws its order does what its text does. -/
import Derived.Test.YtogfofcocidmkaaEvS
set_option linter.unusedVariables false
set_option linter.unusedSimpArgs false
namespace Go.Proofs.Ytogfofcocidmkaa.Ev
open Go.RowKit
section
variable {U : Uni} {X : Beg U} {σ σ' : St U} {a : Act} {w w' : World} {G : Gh} {P : Program}

theorem masks_get : ∀ (os : List Oper) (acc : List Nat), ∃ ext, masks os acc = acc ++ ext ∧ ext.length = os.length ∧ ∀ (q : Nat) o, os[q]? = some o → (masks os acc)[acc.length + q]? = some (maskOf ((masks os acc).take (acc.length + q)) o.after.toList)
  | [], acc => ⟨[], by simp [masks], rfl, fun q o h => by simp at h⟩
  | o :: os, acc => by
    obtain ⟨ext, h1, h2, h3⟩ := masks_get os (acc ++ [maskOf acc o.after.toList])
    have hl : (acc ++ [maskOf acc o.after.toList]).length = acc.length + 1 := by simp
    refine ⟨maskOf acc o.after.toList :: ext, by simp only [masks]; rw [h1]; simp, by simp [h2], fun q o' hq => ?_⟩
    simp only [masks]
    cases q with
    | zero =>
      simp only [List.getElem?_cons_zero, Option.some.injEq] at hq
      subst hq
      rw [h1, Nat.add_zero]
      rw [List.getElem?_append_left (by simp), List.getElem?_append_right (by simp)]
      rw [List.append_assoc, List.take_left]
      simp
    | succ q =>
      simp only [List.getElem?_cons_succ] at hq
      have := h3 q o' hq
      rw [hl] at this
      rw [show acc.length + (q + 1) = acc.length + 1 + q by omega]
      exact this
theorem maskOf_bit {acc : List Nat} {i : Nat} : ∀ (es : List Edge), Nat.testBit (maskOf acc es) i = true → ∃ e ∈ es, Region.binds .any e = true ∧ e.on < acc.length ∧ (e.on = i ∨ Nat.testBit (acc.getD e.on 0) i = true)
  | [], h => by simp [maskOf] at h
  | e :: es, h => by
    simp only [maskOf] at h
    cases hc : Region.binds .any e && Nat.blt e.on acc.length with
    | true =>
      rw [hc] at h
      simp only [cond_true, Nat.testBit_or, Bool.or_eq_true] at h
      simp only [Bool.and_eq_true] at hc
      have hlt : e.on < acc.length := Nat.le_of_ble_eq_true hc.2
      rcases h with (h | h) | h
      · rw [Nat.testBit_two_pow] at h
        exact ⟨e, by simp, hc.1, hlt, .inl (by simpa using h)⟩
      · exact ⟨e, by simp, hc.1, hlt, .inr h⟩
      · obtain ⟨e', h1, h2⟩ := maskOf_bit es h
        exact ⟨e', by simp [h1], h2⟩
    | false =>
      rw [hc] at h
      simp only [cond_false] at h
      obtain ⟨e', h1, h2⟩ := maskOf_bit es h
      exact ⟨e', by simp [h1], h2⟩
theorem anc_step {os : List Oper} {j i : Nat} {o : Oper} (ho : os[j]? = some o) (h : Nat.testBit ((masks os []).getD j 0) i = true) : ∃ e ∈ o.after.toList, Region.binds .any e = true ∧ e.on < j ∧ (e.on = i ∨ Nat.testBit ((masks os []).getD e.on 0) i = true) := by
  obtain ⟨ext, h1, h2, h3⟩ := masks_get os []
  have hj := h3 j o ho
  simp only [List.length_nil, Nat.zero_add] at hj
  have hlt : j < os.length := (List.getElem?_eq_some_iff.1 ho).1
  rw [List.getD_eq_getElem?_getD, hj, Option.getD_some] at h
  have hml : (masks os []).length = os.length := by rw [h1]; simpa using h2
  obtain ⟨e, k1, k2, k3, k4⟩ := maskOf_bit _ h
  rw [List.length_take, hml] at k3
  refine ⟨e, k1, k2, by omega, ?_⟩
  rcases k4 with k4 | k4
  · exact .inl k4
  · right
    rwa [List.getD_eq_getElem?_getD, List.getElem?_take, if_pos (by omega), ← List.getD_eq_getElem?_getD] at k4
/-- Whoever is listed, those ahead of him are. -/
def Down (os : List Oper) (L : Nat → Bool) : Prop := ∀ (j : Nat) o, os[j]? = some o → L j = true → ∀ e ∈ o.after.toList, Region.binds .any e = true → L e.on = true
theorem anc_down {os : List Oper} {L : Nat → Bool} (hD : Down os L) : ∀ (j i : Nat), j < os.length → Nat.testBit ((masks os []).getD j 0) i = true → i < j ∧ (L j = true → L i = true) := by
  intro j
  induction j using Nat.strongRecOn with
  | _ j ih =>
    intro i hj h
    have ho : os[j]? = some os[j] := List.getElem?_eq_getElem hj
    obtain ⟨e, k1, k2, k3, k4⟩ := anc_step ho h
    rcases k4 with rfl | k4
    · exact ⟨k3, fun hL => hD j _ ho hL e k1 k2⟩
    · obtain ⟨m1, m2⟩ := ih e.on k3 i (by omega) k4
      exact ⟨by omega, fun hL => m2 (hD j _ ho hL e k1 k2)⟩
theorem anc_ready {os : List Oper} {L : Nat → Bool} (hD : Down os L) {j i : Nat} {o : Oper} (ho : os[j]? = some o) (hr : ∀ e ∈ o.after.toList, Region.binds .any e = true → L e.on = true) (h : Nat.testBit ((masks os []).getD j 0) i = true) : L i = true := by
  obtain ⟨e, k1, k2, k3, k4⟩ := anc_step ho h
  rcases k4 with rfl | k4
  · exact hr e k1 k2
  · exact (anc_down hD e.on i (by have := (List.getElem?_eq_some_iff.1 ho).1; omega) k4).2 (hr e k1 k2)
theorem inB_mem {x : Nat} : ∀ {l : List Nat}, inB x l = false → x ∉ l
  | [], _ => by simp
  | y :: l, h => by
    simp only [inB] at h
    cases hb : Nat.beq x y with
    | true => rw [hb] at h; cases h
    | false =>
      rw [hb] at h
      simp only [cond_false] at h
      simp only [List.mem_cons, not_or]
      exact ⟨fun e => by subst e; simp at hb, inB_mem h⟩
theorem apartB_no {xs ys : List Nat} (h : apartB xs ys = true) {x : Nat} (hx : x ∈ xs) : x ∉ ys := by
  have := List.all_eq_true.1 h x hx
  exact inB_mem (by simpa using this)
theorem awayAll_get {ms : List Nat} {j : Nat} {s : Tch} : ∀ (ts : List Tch) (i : Nat), awayAll ms j s i ts = true → ∀ (q : Nat) t, ts[q]? = some t → i + q = j ∨ Nat.testBit (ms.getD j 0) (i + q) = true ∨ Nat.testBit (ms.getD (i + q) 0) j = true ∨ t.away s = true
  | [], i, h, q, t, ht => by simp at ht
  | t0 :: ts, i, h, q, t, ht => by
    simp only [awayAll, Bool.and_eq_true, Bool.or_eq_true] at h
    cases q with
    | zero =>
      simp only [List.getElem?_cons_zero, Option.some.injEq] at ht
      subst ht
      rw [Nat.add_zero]
      rcases h.1 with ((h | h) | h) | h
      · exact .inl (Nat.eq_of_beq_eq_true h)
      · exact .inr (.inl h)
      · exact .inr (.inr (.inl h))
      · exact .inr (.inr (.inr h))
    | succ q =>
      have := awayAll_get ts (i + 1) h.2 q t (by simpa using ht)
      rwa [show i + (q + 1) = i + 1 + q by omega]
theorem awayAlls_get {ms : List Nat} {all : List Tch} : ∀ (ss : List Tch) (j : Nat), awayAlls ms all j ss = true → ∀ (q : Nat) s, ss[q]? = some s → awayAll ms (j + q) s 0 all = true
  | [], j, h, q, s, hs => by simp at hs
  | s0 :: ss, j, h, q, s, hs => by
    simp only [awayAlls, Bool.and_eq_true] at h
    cases q with
    | zero => simp only [List.getElem?_cons_zero, Option.some.injEq] at hs; subst hs; rw [Nat.add_zero]; exact h.1
    | succ q =>
      have := awayAlls_get ss (j + 1) h.2 q s (by simpa using hs)
      rwa [show j + (q + 1) = j + 1 + q by omega]
theorem edgesBack_get : ∀ (os : List Oper) (j : Nat), edgesBack j os = true → ∀ (q : Nat) o, os[q]? = some o → ∀ e ∈ o.after.toList, Region.binds .any e = true → e.on < j + q
  | [], j, h, q, o, ho => by simp at ho
  | o0 :: os, j, h, q, o, ho => by
    simp only [edgesBack, Bool.and_eq_true] at h
    cases q with
    | zero =>
      simp only [List.getElem?_cons_zero, Option.some.injEq] at ho
      subst ho
      intro e he hb
      have := List.all_eq_true.1 h.1 e he
      simp only [hb, Bool.not_true, Bool.false_or] at this
      exact Nat.le_of_ble_eq_true this
    | succ q =>
      have := edgesBack_get os (j + 1) h.2 q o (by simpa using ho)
      rwa [show j + (q + 1) = j + 1 + q by omega]
theorem tchs_get (ops : Array Oper) : ∀ (os : List Oper) (es : List (Eff U)) (ts : List Tch), tchs ops os es = some ts → ∀ (q : Nat) p, (os.zip es)[q]? = some p → ∃ t, ts[q]? = some t ∧ tch ops p.1 p.2 = some t
  | [], [], ts, h, q, p, hp => by simp at hp
  | [], _ :: _, ts, h, q, p, hp => by simp at hp
  | _ :: _, [], ts, h, q, p, hp => by simp at hp
  | o :: os, e :: es, ts, h, q, p, hp => by
    simp only [tchs] at h
    split at h
    · rename_i t ts' h1 h2
      cases h
      cases q with
      | zero => simp only [List.zip_cons_cons, List.getElem?_cons_zero, Option.some.injEq] at hp; subst hp; exact ⟨t, rfl, h1⟩
      | succ q => simpa using tchs_get ops os es ts' h2 q p (by simpa using hp)
    · cases h
theorem tchs_srcs (ops : Array Oper) : ∀ (os : List Oper) (es : List (Eff U)) (ts : List Tch), tchs ops os es = some ts → ∀ o ∈ os, ∃ sr, srcs ops o = some sr
  | [], es, ts, h, o, ho => by simp at ho
  | _ :: _, [], ts, h, o, ho => by simp [tchs] at h
  | o0 :: os, e :: es, ts, h, o, ho => by
    simp only [tchs] at h
    split at h
    · rename_i t ts' h1 h2
      rcases List.mem_cons.1 ho with rfl | ho
      · unfold tch at h1
        split at h1
        · exact ⟨_, ‹_›⟩
        · cases h1
      · exact tchs_srcs ops os es ts' h2 o ho
    · cases h
/-- How many are not listed yet. -/
def left (n : Nat) (L : Nat → Bool) : Nat := (List.range n).countP fun i => !L i
theorem left_lt {n j : Nat} {L L' : Nat → Bool} (hj : j < n) (h : L j = false) (h' : L' j = true) (hL : ∀ i, i ≠ j → L' i = L i) : left n L' < left n L := by
  unfold left
  induction n with
  | zero => omega
  | succ n ih =>
    rw [List.range_succ, List.countP_append, List.countP_append]
    by_cases e : j = n
    · subst e
      have : (List.range j).countP (fun i => !L' i) = (List.range j).countP (fun i => !L i) := by
        apply List.countP_congr
        intro i hi
        rw [hL i (by have := List.mem_range.1 hi; omega)]
      rw [this]
      simp [h, h']
    · have := ih (by omega)
      simp only [List.countP_cons, List.countP_nil, hL n (fun z => e z.symm)]
      omega

theorem runL_congr {L L' : Nat → Bool} : ∀ (ps : List (Pr U)) (i : Nat) (σ : St U), (∀ q, q < ps.length → L (i + q) = L' (i + q)) → runL L i ps σ = runL L' i ps σ
  | [], i, σ, h => rfl
  | p :: ps, i, σ, h => by
    simp only [runL]
    have h0 := h 0 (by simp)
    rw [Nat.add_zero] at h0
    rw [h0]
    exact runL_congr ps (i + 1) _ (fun q hq => by have := h (q + 1) (by simpa using hq); rwa [show i + (q + 1) = i + 1 + q by omega] at this)
theorem runL_none : ∀ (ps : List (Pr U)) (i : Nat) (σ : St U), runL (fun _ => false) i ps σ = σ
  | [], i, σ => rfl
  | p :: ps, i, σ => runL_none ps (i + 1) σ
theorem runL_take : ∀ (ps : List (Pr U)) (i j : Nat) (σ : St U), runL (fun _ => true) i (ps.take j) σ = runL (fun q => Nat.blt q (i + j)) i ps σ
  | [], i, j, σ => by simp [runL]
  | p :: ps, i, 0, σ => by
    have := runL_congr (L := fun q => Nat.blt q (i + 0)) (L' := fun _ => false) (p :: ps) i σ (fun q hq => by
      show Nat.blt (i + q) (i + 0) = false
      cases hb : Nat.blt (i + q) (i + 0) with
      | false => rfl
      | true => have : i + q < i + 0 := Nat.le_of_ble_eq_true hb; omega)
    rw [this, runL_none]
    rfl
  | p :: ps, i, j + 1, σ => by
    have e : Nat.blt i (i + (j + 1)) = true := Nat.ble_eq_true_of_le (by omega)
    simp only [List.take_succ_cons, runL, e, cond_true]
    rw [runL_take ps (i + 1) j, show i + 1 + j = i + (j + 1) by omega]
theorem mem_ready {ops : Array Oper} {listed : Array Bool} (hsz : listed.size = ops.size) {i : Nat} : i ∈ Region.ready .any ops listed ↔ ∃ o, ops[i]? = some o ∧ listed.getD i false = false ∧ ∀ e ∈ o.after.toList, Region.binds .any e = true → listed.getD e.on false = true := by
  unfold Region.ready
  rw [List.mem_filter, List.mem_range]
  have hgd : ∀ i, i < ops.size → listed.getD i true = listed.getD i false := fun i hi => by
    rw [Array.getD_eq_getD_getElem?, Array.getD_eq_getD_getElem?]
    have : i < listed.size := by omega
    simp [this]
  constructor
  · rintro ⟨hi, h⟩
    have ho : ops[i]? = some ops[i] := by simp [hi]
    rw [ho] at h
    simp only [Option.map_some, Option.getD_some, Bool.and_eq_true, Bool.not_eq_true', Array.all_eq_true'] at h
    refine ⟨ops[i], ho, by rw [← hgd i hi]; exact h.1, fun e he hb => ?_⟩
    have := h.2 e (by simpa using he)
    simpa [hb] using this
  · rintro ⟨o, ho, h1, h2⟩
    have hi : i < ops.size := (Array.getElem?_eq_some_iff.1 ho).1
    refine ⟨hi, ?_⟩
    rw [ho, hgd i hi, h1]
    simp only [Bool.not_false, Option.map_some, Option.getD_some, Bool.true_and, Array.all_eq_true']
    intro e he
    cases hb : Region.binds .any e with
    | false => rfl
    | true => rw [h2 e (by simpa using he) hb]; rfl
theorem any_ok {ops : Array Oper} {es : List (Eff U)} {σ0 : St U} (hes : es.length = ops.toList.length) (hok : okDraw ops es = true) (hsr : ∀ o ∈ ops.toList, ∃ sr, srcs ops o = some sr)
    (hgood : ∀ (q : Nat) p sr, (ops.toList.zip es)[q]? = some p → srcs ops p.1 = some sr → GoodP P ops p sr (runL (fun _ => true) 0 ((ops.toList.zip es).take q) σ0)) {Q : Exit → Act → World → Prop}
    (hQ : ∀ a' w' G', Rel X (runL (fun _ => true) 0 (ops.toList.zip es) σ0) a' w' G' → Q .normal a' w') :
    ∀ (fuel : Nat) (listed : Array Bool) (a : Act) (w : World) (G : Gh), listed.size = ops.size → Down ops.toList (fun i => listed.getD i false) → left ops.size (fun i => listed.getD i false) ≤ fuel → Rel X (runL (fun i => listed.getD i false) 0 (ops.toList.zip es) σ0) a w G →
      wpAny P .any ops Q fuel listed a w := by
  unfold okDraw at hok
  simp only [Bool.and_eq_true] at hok
  obtain ⟨hback, hts⟩ := hok
  split at hts
  · rename_i ts hts0
    have hzl : (ops.toList.zip es).length = ops.size := by simp [hes]
    have allDone : ∀ (listed : Array Bool), listed.size = ops.size → Region.ready .any ops listed = [] → ∀ i, i < ops.size → listed.getD i false = true := by
      intro listed hsz hr i
      induction i using Nat.strongRecOn with
      | _ i ih =>
        intro hi
        cases hl : listed.getD i false with
        | true => rfl
        | false =>
          exfalso
          have ho : ops[i]? = some ops[i] := by simp [hi]
          have : i ∈ Region.ready .any ops listed := (mem_ready hsz).2 ⟨ops[i], ho, hl, fun e he hb => by
            have := edgesBack_get ops.toList 0 hback i ops[i] (by rw [Array.getElem?_toList]; exact ho) e he hb
            exact ih e.on (by omega) (by omega)⟩
          rw [hr] at this
          simp at this
    have done : ∀ (listed : Array Bool) (a : Act) (w : World) (G : Gh), listed.size = ops.size → (∀ i, i < ops.size → listed.getD i false = true) → Rel X (runL (fun i => listed.getD i false) 0 (ops.toList.zip es) σ0) a w G → Q .normal a w := by
      intro listed a w G hsz hall hR
      rw [runL_congr (L' := fun _ => true) _ 0 σ0 (fun q hq => by rw [Nat.zero_add]; exact hall q (by rw [← hzl]; exact hq))] at hR
      exact hQ a w G hR
    intro fuel
    induction fuel with
    | zero =>
      intro listed a w G hsz hD hleft hR
      have hall : ∀ i, i < ops.size → listed.getD i false = true := by
        intro i hi
        have h0 : left ops.size (fun i => listed.getD i false) = 0 := Nat.le_zero.1 hleft
        unfold left at h0
        rw [List.countP_eq_zero] at h0
        have := h0 i (List.mem_range.2 hi)
        simpa using this
      refine ⟨?_, done listed a w G hsz hall hR⟩
      cases hr : Region.ready .any ops listed with
      | nil => rfl
      | cons i rs =>
        have hi : i ∈ Region.ready .any ops listed := by rw [hr]; simp
        obtain ⟨o, ho, hl, _⟩ := (mem_ready hsz).1 hi
        rw [hall i (Array.getElem?_eq_some_iff.1 ho).1] at hl
        cases hl
    | succ fuel ih =>
      intro listed a w G hsz hD hleft hR
      refine ⟨fun hr => done listed a w G hsz (allDone listed hsz hr) hR, fun j hj => ?_⟩
      obtain ⟨o, ho, hl, hedge⟩ := (mem_ready hsz).1 hj
      have hjn : j < ops.size := (Array.getElem?_eq_some_iff.1 ho).1
      have hol : ops.toList[j]? = some o := by rw [Array.getElem?_toList]; exact ho
      obtain ⟨e, hej⟩ : ∃ e, es[j]? = some e := ⟨es[j]'(by rw [hes]; simpa using hjn), by simp⟩
      have hp : (ops.toList.zip es)[j]? = some (o, e) := by rw [List.getElem?_zip_eq_some]; exact ⟨hol, hej⟩
      obtain ⟨sr, hsrj⟩ := hsr o (List.mem_of_getElem? hol)
      obtain ⟨t, htj, htch⟩ := tchs_get ops _ _ ts hts0 j (o, e) hp
      have htd : t = ⟨sr, o.dst.toList, e.r, e.bx.map (·.1)⟩ := by
        unfold tch at htch
        rw [hsrj] at htch
        exact (Option.some.inj htch).symm
      have haway := awayAlls_get ts 0 hts j t htj
      rw [Nat.zero_add] at haway
      -- who touches what j touches stands in order with it
      have key : ∀ (q : Nat) p, (ops.toList.zip es)[q]? = some p → q ≠ j → (∀ tq, tch ops p.1 p.2 = some tq → tq.away t = false) → listed.getD q false = Nat.blt q j := by
        intro q p hq hne htouch
        obtain ⟨tq, h1, h2⟩ := tchs_get ops _ _ ts hts0 q p hq
        have hqn : q < ops.size := by rw [← hzl]; exact (List.getElem?_eq_some_iff.1 hq).1
        have := awayAll_get ts 0 haway q tq h1
        rw [Nat.zero_add] at this
        rcases this with h | h | h | h
        · exact absurd h hne
        · have hlt := (anc_down hD j q (by simpa using hjn) h).1
          have hL : listed.getD q false = true := anc_ready hD hol hedge h
          rw [hL]
          exact (Nat.ble_eq_true_of_le hlt).symm
        · have hd := anc_down hD q j (by simpa using hqn) h
          have hL : listed.getD q false = false := by
            cases hb : listed.getD q false with
            | false => rfl
            | true => have hh : listed.getD j false = true := hd.2 hb; rw [hl] at hh; cases hh
          rw [hL]
          cases hb : Nat.blt q j with
          | false => rfl
          | true => have : q < j := Nat.le_of_ble_eq_true hb; omega
        · rw [htouch tq h2] at h; cases h
      have selfL : ∀ (q : Nat) , q = j → listed.getD q false = Nat.blt q j := fun q e => by
        subst e
        rw [hl]
        cases hb : Nat.blt q q with
        | false => rfl
        | true => have : q < q := Nat.le_of_ble_eq_true hb; omega
      have touch_sr : ∀ (q : Nat) p x, (ops.toList.zip es)[q]? = some p → p.1.dst = some x → x ∈ sr ∨ o.dst = some x → listed.getD q false = Nat.blt q j := by
        intro q p x hq hd hx
        by_cases hne : q = j
        · exact selfL q hne
        · refine key q p hq hne (fun tq htq => ?_)
          have htq2 : tq.sw = p.1.dst.toList := by
            unfold tch at htq
            split at htq
            · cases htq; rfl
            · cases htq
          cases haw : tq.away t with
          | false => rfl
          | true =>
            exfalso
            simp only [Tch.away, Bool.and_eq_true] at haw
            have hmem : x ∈ tq.sw := by rw [htq2, hd]; simp
            rcases hx with hx | hx
            · exact apartB_no haw.1.1.1 hmem (by rw [htd]; exact hx)
            · exact apartB_no haw.1.1.2 hmem (by rw [htd, hx]; simp)
      have touch_bx : ∀ (q : Nat) p x, (ops.toList.zip es)[q]? = some p → x ∈ p.2.bx.map (·.1) → x ∈ e.r ++ e.bx.map (·.1) → listed.getD q false = Nat.blt q j := by
        intro q p x hq hd hx
        by_cases hne : q = j
        · exact selfL q hne
        · refine key q p hq hne (fun tq htq => ?_)
          have htq2 : tq.bw = p.2.bx.map (·.1) := by
            unfold tch at htq
            split at htq
            · cases htq; rfl
            · cases htq
          cases haw : tq.away t with
          | false => rfl
          | true =>
            exfalso
            simp only [Tch.away, Bool.and_eq_true] at haw
            have hmem : x ∈ tq.bw := by rw [htq2]; exact hd
            rcases List.mem_append.1 hx with hx | hx
            · exact apartB_no haw.1.2 hmem (by rw [htd]; exact hx)
            · exact apartB_no haw.2 hmem (by rw [htd]; exact hx)
      have hg := hgood j (o, e) sr hp hsrj
      rw [runL_take, Nat.zero_add] at hg
      have r1 := runL_rest (fun i => listed.getD i false) (ops.toList.zip es) 0 σ0
      have r2 := runL_rest (fun q => Nat.blt q j) (ops.toList.zip es) 0 σ0
      have hagree : Agree sr (e.r ++ e.bx.map (·.1)) (runL (fun q => Nat.blt q j) 0 (ops.toList.zip es) σ0) (runL (fun i => listed.getD i false) 0 (ops.toList.zip es) σ0) := {
        rows := r1.1.trans r2.1.symm
        lk := r1.2.1.trans r2.2.1.symm
        ns := r1.2.2.1.trans r2.2.2.1.symm
        nb := r1.2.2.2.trans r2.2.2.2.symm
        slot := fun x hx => runL_slot _ 0 _ _ rfl rfl (fun q p hq hd => by rw [Nat.zero_add]; exact touch_sr q p x hq hd (.inl hx))
        box := fun b hb => runL_box _ 0 _ _ rfl rfl (fun q p hq hd => by rw [Nat.zero_add]; exact touch_bx q p b hq hd hb) }
      have hset : ∀ i, (listed.setIfInBounds j true).getD i false = if i = j then true else listed.getD i false := fun i => by
        rw [Array.getD_eq_getD_getElem?, Array.getD_eq_getD_getElem?, Array.getElem?_setIfInBounds]
        by_cases e : j = i
        · subst e
          simp [hsz, hjn]
        · simp [e, Ne.symm e]
      have hmore := runL_more (L := fun i => listed.getD i false) (L' := fun i => (listed.setIfInBounds j true).getD i false) (σ := σ0) hp hl (by rw [hset]; simp) (fun i hi => by rw [hset, if_neg hi])
        (fun q p' x hq hlt hL hd hdj => by
          have h1 := touch_sr q p' x hq hd (.inr hdj)
          have hL : listed.getD q false = true := hL
          rw [hL] at h1
          have : q < j := Nat.le_of_ble_eq_true h1.symm
          omega)
        (fun q p' b hq hlt hL hb hbj => by
          have h1 := touch_bx q p' b hq hb (List.mem_append_right _ hbj)
          have hL : listed.getD q false = true := hL
          rw [hL] at h1
          have : q < j := Nat.le_of_ble_eq_true h1.symm
          omega)
      have hnext : ∀ a' w' G', Rel X (e.app o.dst (runL (fun i => listed.getD i false) 0 (ops.toList.zip es) σ0)) a' w' G' → wpAny P .any ops Q fuel (listed.setIfInBounds j true) a' w' := by
        intro a' w' G' hR'
        rw [← hmore] at hR'
        refine ih _ a' w' G' (by simpa using hsz) (fun i oi hoi hLi ed hed hb => ?_) ?_ hR'
        · have hLi : (listed.setIfInBounds j true).getD i false = true := hLi
          show (listed.setIfInBounds j true).getD ed.on false = true
          rw [hset]
          by_cases e1 : ed.on = j
          · rw [if_pos e1]
          · rw [if_neg e1]
            by_cases e2 : i = j
            · subst e2
              rw [hol] at hoi
              cases hoi
              exact hedge ed hed hb
            · rw [hset, if_neg e2] at hLi
              exact hD i oi hoi hLi ed hed hb
        · have := left_lt (L := fun i => listed.getD i false) (L' := fun i => (listed.setIfInBounds j true).getD i false) hjn hl (by simp only [hset, if_true]) (fun i hi => by simp only [hset, if_neg hi])
          omega
      have hfin := hg _ hagree X a w G hR (wpAny P .any ops Q fuel (listed.setIfInBounds j true)) Q hnext
      unfold wpOp
      rw [ho]
      simp only
      split
      · rename_i hw
        rw [if_pos hw] at hfin
        exact .inl hfin
      · rename_i hw
        rw [if_neg hw] at hfin
        exact hfin
  · cases hts
theorem draw_ok (hU : UOk P U) {R : Type} {F : Nat → Fn U R} (hF : ∀ g, Sound P F g) (hm : P.follows .mixedOrders = true) : DrawOk P F := by
  intro id ops σ k r h
  unfold evDraw at h
  obtain ⟨hsr0, h2⟩ := bif_some h
  have hsr : ∀ o ∈ ops.toList, ∃ sr, srcs ops o = some sr := fun o ho => Option.isSome_iff_exists.1 (List.all_eq_true.1 hsr0 o ho)
  obtain ⟨es, k1, k2, k3⟩ := evOpsD_ok hU hF _ _ _ _ hsr h2
  obtain ⟨hok, k4⟩ := bif_some k2
  rw [List.nil_append] at hok
  refine ⟨_, k4, fun X a w G hR Q hQ => wp_region_any hm ?_⟩
  have hR1 := (hR.world (w' := { w with drawn := w.drawn + 1 }) ⟨rfl, rfl, rfl, Nat.le_refl _, fun _ _ _ => rfl⟩).holes (ops.toList.countP fun o => isAlloc o.op)
  refine any_ok k1 hok hsr k3 hQ ops.size _ a _ G (by simp) (fun j o _ hL => ?_) ?_ ?_
  · exfalso
    have hL : (Array.replicate ops.size false).getD j false = true := hL
    rw [Array.getD_eq_getD_getElem?, Array.getElem?_replicate] at hL
    split at hL <;> cases hL
  · unfold left
    exact Nat.le_trans List.countP_le_length (by simp)
  · rw [runL_congr (L' := fun _ => false) _ 0 _ (fun q hq => by
      rw [Array.getD_eq_getD_getElem?, Array.getElem?_replicate]
      split <;> rfl), runL_none]
    exact hR1
end
end Go.Proofs.Ytogfofcocidmkaa.Ev
