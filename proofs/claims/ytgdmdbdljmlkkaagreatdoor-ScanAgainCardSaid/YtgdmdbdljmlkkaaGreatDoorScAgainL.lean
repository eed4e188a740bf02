/- The plain law of ScanAgain: a log that was opened is found again; files that are durable survive a repair that was broken off. -/
import Derived.Test.YtgdmdbdljmlkkaaGreatDoorFindD
namespace Go.Proofs.YtgdmdbdljmlkkaaGreatDoor
set_option linter.unusedVariables false
set_option linter.unusedSimpArgs false

theorem fnd_segs {E F : DS} (h : ∀ n, 1 ≤ n → n ≤ 99999999 → fnd E (nameI n) = fnd F (nameI n)) : segsD E = segsD F := by
  refine inc_ext (inc_segs E) (inc_segs F) (fun n => ?_)
  rw [mem_segs_fnd, mem_segs_fnd]
  constructor <;> (rintro ⟨h1, h2, h3⟩; refine ⟨h1, h2, ?_⟩)
  · rw [← h n h1 h2]; exact h3
  · rw [h n h1 h2]; exact h3

theorem findG_congr {g g' : Int → List UInt8} {L : List Int} (h : ∀ n ∈ L, g' n = g n) : findG g' L = findG g L := by
  by_cases hL : L = []
  · subst hL; rfl
  · have hg : ∀ i, i < L.length → g' (L.getD i 0) = g (L.getD i 0) := fun i hi => by
      have e : L.getD i 0 = L[i] := by rw [List.getD_eq_getElem?_getD, List.getElem?_eq_getElem hi]; rfl
      rw [e]; exact h _ (List.getElem_mem hi)
    have hm : ∀ i, i < L.length → markK g' L i = markK g L i := fun i => by
      induction i with
      | zero => intro _; rfl
      | succ i ih =>
        intro hi
        rw [markK, markK, hg _ hi, ih (by omega)]
    have hl := List.length_pos_iff.2 hL
    have hk := hm (L.length - 1) (by omega)
    have hle := markK_le g L (L.length - 1)
    have hr : ∀ n ∈ L.drop (markK g L (L.length - 1)), g' n = g n := fun n hn => h n (List.mem_of_mem_drop hn)
    unfold findG
    rw [if_neg hL, if_neg hL, hk]
    have hru : restUp g' (L.drop (markK g L (L.length - 1))) (L.length - markK g L (L.length - 1)) = restUp g (L.drop (markK g L (L.length - 1))) (L.length - markK g L (L.length - 1)) := by
      refine restUp_congr fun i hi => ?_
      have e : g' ((L.drop (markK g L (L.length - 1))).getD i 0) = g ((L.drop (markK g L (L.length - 1))).getD i 0) := by
        have hi2 : i < (L.drop (markK g L (L.length - 1))).length := by rw [List.length_drop]; exact hi
        have e : (L.drop (markK g L (L.length - 1))).getD i 0 = (L.drop (markK g L (L.length - 1)))[i] := by rw [List.getD_eq_getElem?_getD, List.getElem?_eq_getElem hi2]; rfl
        rw [e]; exact hr _ (List.getElem_mem hi2)
      unfold restAt
      rw [e]
    have hre : recsG g' (L.drop (markK g L (L.length - 1))) = recsG g (L.drop (markK g L (L.length - 1))) := by
      unfold recsG
      generalize L.drop (markK g L (L.length - 1)) = M at hr
      induction M with
      | nil => rfl
      | cons a l ih => rw [List.flatMap_cons, List.flatMap_cons, hr a (by simp), ih (fun n hn => hr n (by simp [hn]))]
    have hla : g' (lastN L) = g (lastN L) := h _ (lastN_mem hL)
    rw [hru, hre, hla]

/-- Files that are the same where segments lie: the same log. -/
theorem find_fnd {E F : DS} (hed : E.down = false) (hd : F.down = false) (h : ∀ n, 1 ≤ n → n ≤ 99999999 → fnd E (nameI n) = fnd F (nameI n)) : findS E = findS F := by
  have hs := fnd_segs h
  unfold findS
  rw [hed, hd, hs]
  refine findG_congr fun n hn => ?_
  have := mem_segs hn
  exact contD_congr hed hd n (h n this.1 this.2)

theorem find_one {g : Int → List UInt8} (h : g 1 = []) : findG g [1] = ⟨0, [], 1, [], [], 0⟩ := by
  have hs : splitB (g 1) = ([], 0) := by rw [h]; exact splitB_none rfl
  have hs0 : splitB ([] : List UInt8) = ([], 0) := splitB_none rfl
  simp [findG, markK, chainUp, restUp, chainAt, restAt, empAt, recsG, fullL, lastN, h, hs0, List.range_succ]

/-- A log that was opened is found again, and no bytes are torn. -/
theorem find_opened {F E : DS} (hd : F.down = false) (h : (findS F).code = 0) (hed : E.down = false) (hf : fnd E = openedF (findS F) (fnd F)) :
    (findS E).code = 0 ∧ (findS E).recs = (findS F).recs ∧ (findS E).last = max (findS F).last 1 ∧ (findS E).front = (findS F).front ∧ (findS E).torn = 0 := by
  rcases find_shape hd h with ⟨hL0, hfb⟩ | ⟨hL, k, hkk, hk, ho, hla, hfr, hto, hl1, hl2⟩
  · have h1 : fnd E (nameI 1) = some ⟨nameI 1, [], 0⟩ := by
      rw [hf]; unfold openedF
      rw [if_neg (by have := nameI_cut 1; simp [this.1, this.2]), hfb]
      exact if_pos rfl
    have hse : segsD E = [1] := by
      refine inc_ext (inc_segs E) (List.pairwise_singleton _ _) (fun n => ?_)
      rw [mem_segs_fnd, List.mem_singleton]
      constructor
      · rintro ⟨a, b, c⟩
        by_cases hn : n = 1
        · exact hn
        · exfalso
          rw [hf] at c
          unfold openedF at c
          rw [if_neg (by have := nameI_cut n; simp [this.1, this.2]), hfb] at c
          have hne : nameI n ≠ nameI (max (FR.bad 0).last 1) := fun e => hn (nameI_inj ⟨a, b⟩ ⟨by decide, by decide⟩ e)
          rw [if_neg hne, if_neg (by simp [FR.bad])] at c
          have : n ∈ segsD F := (mem_segs_fnd F n).2 ⟨a, b, c⟩
          rw [hL0] at this; simp at this
      · rintro rfl
        exact ⟨by decide, by decide, by rw [h1]; rfl⟩
    have hfe : findS E = ⟨0, [], 1, [], [], 0⟩ := by
      unfold findS; rw [hed, hse]
      exact find_one (contD_some hed h1)
    rw [hfe, hfb]
    exact ⟨rfl, rfl, by decide, rfl, rfl⟩
  · have hmx : max (findS F).last 1 = (findS F).last := by omega
    have hold : (findS F).older.length = k := by rw [ho, List.length_take]; omega
    have hlast : fnd E (nameI (findS F).last) = some ⟨nameI (findS F).last, (findS F).front, (findS F).front.length⟩ := by
      rw [hf]; unfold openedF
      rw [if_neg (by have := nameI_cut (findS F).last; simp [this.1, this.2]), hmx]
      exact if_pos rfl
    have hc : Cls (fnd F) (segsD F) (findS F).last (findS F).front k (fnd E) := by
      refine ⟨fun x h1 h2 h3 h4 => ?_, .inr hlast, fun n hn => ?_⟩
      · rw [hf]; unfold openedF
        rw [if_neg (by simp [h1, h2]), hmx, if_neg h3, if_neg]
        intro hm
        rw [ho] at hm
        obtain ⟨n, hn, rfl⟩ := List.mem_map.1 hm
        exact h4 n hn rfl
      · have hn2 := mem_segs (List.mem_of_mem_take hn)
        have hlt := inc_take_last (inc_segs F) hk hn
        rw [hf]; unfold openedF
        rw [if_neg (by have := nameI_cut n; simp [this.1, this.2]), hmx, if_neg (fun e => by have := nameI_inj hn2 ⟨hl1, hl2⟩ e; omega), if_pos]
        rw [ho]; exact List.mem_map_of_mem hn
    obtain ⟨e1, e2, e3, e4, e5⟩ := find_cls hd h hL hed (by omega) hc
    refine ⟨e1, e2, by rw [e3, hmx], e4, ?_⟩
    rcases find_shape hed e1 with ⟨g0, -⟩ | ⟨-, _, -, -, -, g1, g2, g3, -, -⟩
    · exact absurd g0 e5
    · have hcl : contD E (lastN (segsD E)) = (findS F).front := by
        rw [← g1, e3]
        exact contD_some hed hlast
      have hsp : (splitB (findS F).front).2 = (findS F).front.length := by
        rw [hfr, split_front, List.length_take]
        have := splitB_le (contD F (lastN (segsD F)))
        simp; omega
      rw [g3, hcl, hsp]; omega

/-- A log that can be opened: opened, and found again. -/
theorem reopen {G : DS} (hd : G.down = false) (hp : G.plan = 0) (h : (findS G).code = 0) (hr : (findS G).torn ≠ 0 → (sumD G.files : Int) + (findS G).front.length ≤ G.room) :
    (openS doR G).2 = 0 ∧ (openS doR G).1.plan = 0 ∧ (openS doR G).1.down = false ∧ (findS (openS doR G).1).code = 0 ∧ (findS (openS doR G).1).recs = (findS G).recs ∧ (findS (openS doR G).1).last = max (findS G).last 1 ∧ (findS (openS doR G).1).front = (findS G).front ∧ (findS (openS doR G).1).torn = 0 := by
  obtain ⟨a1, a2, a3, -, a5⟩ := open_good hd hp h hr
  obtain ⟨b1, b2, b3, b4, b5⟩ := find_opened hd h a3 a5
  exact ⟨a1, a2, a3, b1, b2, b3, b4, b5⟩

/-- The files of an empty disk while its log is opened. -/
structure Cls0 (φ0 φ : FN) : Prop where
  off : ∀ x, x ≠ cutNm → x ≠ newNm → x ≠ nameI 1 → φ x = φ0 x
  one : φ (nameI 1) = none ∨ φ (nameI 1) = some ⟨nameI 1, [], 0⟩

/-- Files that are durable, a repair that was broken off, and a crash: the log is as it was. -/
theorem again_find {F : DS} (hd : F.down = false) (hdur : ∀ x f, fnd F x = some f → f.d = f.b.length ∧ f.name = x) (p : Int) (ks : List Int) (G : DS) (hGd : G.down = false) (hG : G.files = crashF (openS doR { F with plan := p }).1.files ks) :
    (findS G).code = (findS F).code ∧ (findS G).recs = (findS F).recs := by
  have hgf : ∀ x, fnd G x = findD (crashF (openS doR { F with plan := p }).1.files ks) x := fun x => by show findD G.files x = _; rw [hG]
  have hfp : findS { F with plan := p } = findS F := find_fnd hd hd (fun n _ _ => rfl)
  by_cases hc : (findS F).code = 0
  · have hfd : openS doR { F with plan := p } = stepsG doR { F with plan := p } (openOps (findS F) F) := by
      rw [open_steps (D := { F with plan := p }) hd (by rw [hfp]; exact hc), hfp]
      rfl
    rcases find_shape hd hc with ⟨hL0, hfb⟩ | ⟨hL, -⟩
    · obtain ⟨m, hm, e1, -, -⟩ := steps_eff (openOps (findS F) F) { F with plan := p }
      have hops : openOps (findS F) F = (([cutNm, newNm].filter fun n => (fnd F n).isSome).map rmO) ++ [⟨1, nameI 1, ⟨#[]⟩, []⟩] := by
        unfold openOps; rw [hfb, if_pos (show (FR.bad 0).last = 0 from rfl)]; rfl
      have h1n : fnd F (nameI 1) = none := by
        cases hq : fnd F (nameI 1) with
        | none => rfl
        | some f =>
          have : (1 : Int) ∈ segsD F := (mem_segs_fnd F 1).2 ⟨by decide, by decide, by rw [hq]; rfl⟩
          rw [hL0] at this; simp at this
      have hA : ∀ (l : List ByteArray), (∀ n ∈ l, n = cutNm ∨ n = newNm) → ∀ m (φ : FN), Cls0 (fnd F) φ → φ (nameI 1) = none → Cls0 (fnd F) (effL ((l.map rmO).take m) φ) ∧ (effL ((l.map rmO).take m) φ) (nameI 1) = none := by
        intro l
        induction l with
        | nil => intro _ m φ h h1; simp only [List.map_nil, List.take_nil]; exact ⟨h, h1⟩
        | cons a l ih =>
          intro hl m φ h h1
          cases m with
          | zero => exact ⟨h, h1⟩
          | succ m =>
            have ha := hl a (by simp)
            have e : effL (((a :: l).map rmO).take (m + 1)) φ = effL ((l.map rmO).take m) (effO (rmO a) φ) := rfl
            rw [e]
            have hna : nameI 1 ≠ a := by rcases ha with rfl | rfl; exact (nameI_cut 1).1; exact (nameI_cut 1).2
            refine ih (fun n hn => hl n (by simp [hn])) m _ ⟨fun x x1 x2 x3 => ?_, ?_⟩ ?_
            · rw [effO_rm, if_neg (by rcases ha with rfl | rfl <;> assumption)]; exact h.off x x1 x2 x3
            · rw [effO_rm, if_neg hna]; exact .inl h1
            · rw [effO_rm, if_neg hna]; exact h1
      have h2 : Cls0 (fnd F) (fnd (openS doR { F with plan := p }).1) := by
        rw [hfd, e1, hops]
        generalize hC : ([cutNm, newNm].filter fun n => (fnd F n).isSome) = C
        have hCm : ∀ n ∈ C, n = cutNm ∨ n = newNm := fun n hn => by
          rw [← hC] at hn
          have := (List.mem_filter.1 hn).1
          simpa using this
        rw [List.take_append, effL_append]
        obtain ⟨a1, a2⟩ := hA C hCm m (fnd F) ⟨fun _ _ _ _ => rfl, .inl h1n⟩ h1n
        generalize effL (List.take m (C.map rmO)) (fnd F) = ψ at a1 a2
        cases hmm : m - (C.map rmO).length with
        | zero => exact a1
        | succ q =>
          have e : effL (List.take (q + 1) [(⟨1, nameI 1, ⟨#[]⟩, []⟩ : OP)]) ψ = effO ⟨1, nameI 1, ⟨#[]⟩, []⟩ ψ := by rw [List.take_succ_cons, List.take_nil]; rfl
          rw [e]
          have e2 : ∀ x, effO ⟨1, nameI 1, ⟨#[]⟩, []⟩ ψ x = if x = nameI 1 then some ⟨nameI 1, [], 0⟩ else ψ x := fun x => rfl
          exact ⟨fun x x1 x2 x3 => by rw [e2, if_neg x3]; exact a1.off x x1 x2 x3, by rw [e2, if_pos rfl]; exact .inr rfl⟩
      have hne : ∀ n, 1 ≤ n → n ≤ 99999999 → n ≠ 1 → fnd G (nameI n) = none := fun n n1 n2 n3 => by
        have e := h2.off (nameI n) (nameI_cut n).1 (nameI_cut n).2 (fun e => n3 (nameI_inj ⟨n1, n2⟩ ⟨by decide, by decide⟩ e))
        have e0 : fnd F (nameI n) = none := by
          cases hq : fnd F (nameI n) with
          | none => rfl
          | some f =>
            have : n ∈ segsD F := (mem_segs_fnd F n).2 ⟨n1, n2, by rw [hq]; rfl⟩
            rw [hL0] at this; simp at this
        rw [hgf, crash_same ks (fun f hf => by rw [show findD (openS doR { F with plan := p }).1.files (nameI n) = none from e.trans e0] at hf; cases hf)]
        exact e.trans e0
      rcases h2.one with ho | ho
      · have hg1 : fnd G (nameI 1) = none := by
          rw [hgf, crash_same ks (fun f hf => by rw [show findD (openS doR { F with plan := p }).1.files (nameI 1) = none from ho] at hf; cases hf)]
          exact ho
        have hgs : segsD G = [] := by
          refine List.eq_nil_iff_forall_not_mem.2 fun n hn => ?_
          obtain ⟨n1, n2, n3⟩ := (mem_segs_fnd G n).1 hn
          by_cases hq : n = 1
          · rw [hq, hg1] at n3; cases n3
          · rw [hne n n1 n2 hq] at n3; cases n3
        have hgb : findS G = FR.bad 0 := by unfold findS; rw [hGd, hgs]; rfl
        rw [hgb, hfb]; exact ⟨rfl, rfl⟩
      · have hg1 : fnd G (nameI 1) = some ⟨nameI 1, [], 0⟩ := by
          rw [hgf, crash_same ks (fun f hf => by
            rw [show findD (openS doR { F with plan := p }).1.files (nameI 1) = some ⟨nameI 1, [], 0⟩ from ho] at hf
            cases hf; rfl)]
          exact ho
        have hgs : segsD G = [1] := by
          refine inc_ext (inc_segs G) (List.pairwise_singleton _ _) (fun n => ?_)
          rw [mem_segs_fnd, List.mem_singleton]
          constructor
          · rintro ⟨n1, n2, n3⟩
            by_cases hq : n = 1
            · exact hq
            · rw [hne n n1 n2 hq] at n3; cases n3
          · rintro rfl
            exact ⟨by decide, by decide, by rw [hg1]; rfl⟩
        have hgb : findS G = ⟨0, [], 1, [], [], 0⟩ := by
          unfold findS; rw [hGd, hgs]
          exact find_one (contD_some hGd hg1)
        rw [hgb, hfb]; exact ⟨rfl, rfl⟩
    · obtain ⟨j, hj, hcl, -⟩ := open_cls hd hc hL hdur { F with plan := p } rfl hfd
      have hdl : ∀ x f, x ≠ cutNm → x ≠ newNm → fnd (openS doR { F with plan := p }).1 x = some f → f.d = f.b.length := by
        intro x f x1 x2 hx
        by_cases hxl : x = nameI (findS F).last
        · subst hxl
          rcases hcl.lst with h1 | h1
          · rw [h1] at hx; exact (hdur _ f hx).1
          · rw [h1] at hx; cases hx; rfl
        · by_cases hg : ∃ n ∈ (segsD F).take j, x = nameI n
          · obtain ⟨n, hn, rfl⟩ := hg
            rw [hcl.gone n hn] at hx; cases hx
          · rw [hcl.off x x1 x2 hxl (fun n hn e => hg ⟨n, hn, e⟩)] at hx
            exact (hdur _ f hx).1
      have hc2 : Cls (fnd F) (segsD F) (findS F).last (findS F).front j (fnd G) := hcl.same fun x x1 x2 => by
        rw [hgf]
        exact crash_same ks (fun f hf => hdl x f x1 x2 hf)
      obtain ⟨e1, e2, -, -, -⟩ := find_cls hd hc hL hGd hj hc2
      exact ⟨by rw [e1, hc], e2⟩
  · have hos : openS doR { F with plan := p } = ({ F with plan := p }, (findS F).code) := by
      unfold openS openG; rw [hfp, if_pos hc]
    have hfg : findS G = findS F := find_fnd hGd hd (fun n _ _ => by
      rw [hgf, hos]
      exact crash_same ks (fun f hf => (hdur _ f hf).1))
    rw [hfg]; exact ⟨rfl, rfl⟩

theorem doR_calm {E : DS} (hd : E.down = false) (hp : E.plan = 0) (o : OP) : (doR E o).1.down = false ∧ (doR E o).1.plan = 0 ∧ (doR E o).1.room = E.room := by
  have hst : (stepF E).down = false ∧ (stepF E).plan = 0 ∧ (stepF E).room = E.room := ⟨hd, by show max (E.plan - 1) 0 = 0; rw [hp]; rfl, rfl⟩
  unfold doR
  generalize kN o.k = k
  unfold doF
  rw [if_neg (by rw [hd]; decide), if_neg (by rw [hp]; decide)]
  split
  · exact hst
  split
  · split <;> exact hst
  · cases hf : findD E.files o.n with
    | none => exact hst
    | some f =>
      simp only
      split
      · split <;> exact hst
      split
      · exact hst
      split <;> exact hst
theorem doR_named {E : DS} (hd : E.down = false) (hp : E.plan = 0) {o : OP} (h : (doR E o).2 = 0) : namedB o.n = true := by
  cases hn : namedB o.n with
  | true => rfl
  | false =>
    exfalso
    unfold doR doF at h
    rw [if_neg (by rw [hd]; decide), if_neg (by rw [hp]; decide), if_pos (.inl hn)] at h
    exact absurd (show (6 : Int) = 0 from h) (by decide)
/-- Every file is durable. -/
def Durable (φ : FN) : Prop := ∀ x f, φ x = some f → f.d = f.b.length ∧ f.name = x
def fileOps3 (n : ByteArray) (l : List UInt8) : List OP := [⟨1, n, ⟨#[]⟩, []⟩, ⟨2, n, ⟨#[]⟩, l⟩, ⟨3, n, ⟨#[]⟩, []⟩]
theorem file_dur {E : DS} (hd : E.down = false) (hp : E.plan = 0) (hu : Durable (fnd E)) (n : ByteArray) (l : List UInt8) :
    (stepsG doR E (fileOps3 n l)).1.down = false ∧ (stepsG doR E (fileOps3 n l)).1.plan = 0 ∧ (stepsG doR E (fileOps3 n l)).1.room = E.room ∧ Durable (fnd (stepsG doR E (fileOps3 n l)).1) := by
  have hs : stepsG doR E (fileOps3 n l) = seqG (doR E ⟨1, n, ⟨#[]⟩, []⟩) fun D => seqG (doR D ⟨2, n, ⟨#[]⟩, l⟩) fun D => seqG (doR D ⟨3, n, ⟨#[]⟩, []⟩) fun D => (D, 0) := rfl
  rw [hs]
  obtain ⟨a1, a2, a3⟩ := doR_calm hd hp ⟨1, n, ⟨#[]⟩, []⟩
  obtain ⟨b1, b2, b3⟩ := doR_eff E ⟨1, n, ⟨#[]⟩, []⟩
  have hnm := fun h => doR_named hd hp (o := ⟨1, n, ⟨#[]⟩, []⟩) h
  generalize doR E ⟨1, n, ⟨#[]⟩, []⟩ = r1 at *
  unfold seqG
  by_cases h1 : r1.2 = 0
  · rw [if_neg (by simpa using h1)]
    dsimp only
    have e1 := (b3 h1).1
    have hn : namedB n = true := hnm h1
    have hf1 : fnd r1.1 n = some ⟨n, [], 0⟩ := by rw [e1]; exact if_pos rfl
    have hu1 : Durable (fnd r1.1) := fun x f hx => by
      rw [e1] at hx
      by_cases hxn : x = n
      · rw [show effO ⟨1, n, ⟨#[]⟩, []⟩ (fnd E) x = some ⟨n, [], 0⟩ from if_pos hxn] at hx
        cases hx; exact ⟨rfl, hxn.symm⟩
      · rw [show effO ⟨1, n, ⟨#[]⟩, []⟩ (fnd E) x = fnd E x from if_neg hxn] at hx
        exact hu x f hx
    obtain ⟨c1, c2, c3⟩ := doR_calm a1 a2 ⟨2, n, ⟨#[]⟩, l⟩
    obtain ⟨d1, d2, d3⟩ := doR_eff r1.1 ⟨2, n, ⟨#[]⟩, l⟩
    generalize doR r1.1 ⟨2, n, ⟨#[]⟩, l⟩ = r2 at *
    by_cases h2 : r2.2 = 0
    · rw [if_neg (by simpa using h2)]
      have e2 := (d3 h2).1
      have hf2 : ∀ x, fnd r2.1 x = if x = n then some ⟨n, l, 0⟩ else fnd r1.1 x := fun x => by
        rw [e2]; unfold effO effK; rw [if_neg (show ¬ (2 : Nat) = 1 by decide), hf1]; rfl
      have hf2n : fnd r2.1 n = some ⟨n, l, 0⟩ := by rw [hf2, if_pos rfl]
      obtain ⟨g1, g2, g3⟩ := doR_calm c1 c2 ⟨3, n, ⟨#[]⟩, []⟩
      obtain ⟨k1, k2, k3⟩ := doR_eff r2.1 ⟨3, n, ⟨#[]⟩, []⟩
      have hs3 := (doR_succ (o := ⟨3, n, ⟨#[]⟩, []⟩) c1 c2 hn (by intro h; cases h) (by intro h; cases h) (fun _ => by rw [hf2n]; rfl) (by intro h; cases h)).1
      generalize doR r2.1 ⟨3, n, ⟨#[]⟩, []⟩ = r3 at *
      rw [if_neg (by simpa using hs3)]
      have e3 := (k3 hs3).1
      have hf3 : ∀ x, fnd r3.1 x = if x = n then some ⟨n, l, l.length⟩ else fnd r2.1 x := fun x => by
        rw [e3]; unfold effO effK; rw [if_neg (show ¬ (3 : Nat) = 1 by decide), hf2n]; rfl
      refine ⟨g1, g2, by show r3.1.room = _; rw [g3, c3, a3], fun x f hx => ?_⟩
      have hx' : fnd r3.1 x = some f := hx
      rw [hf3] at hx'
      by_cases hxn : x = n
      · rw [if_pos hxn] at hx'; cases hx'; exact ⟨rfl, hxn.symm⟩
      · rw [if_neg hxn, hf2, if_neg hxn] at hx'
        exact hu1 x f hx'
    · rw [if_pos h2]
      refine ⟨c1, c2, by rw [c3, a3], fun x f hx => ?_⟩
      have e : fnd r2.1 = fnd r1.1 := by show findD _ = _; rw [d2 h2]
      rw [e] at hx
      exact hu1 x f hx
  · rw [if_pos h1]
    refine ⟨a1, a2, a3, fun x f hx => ?_⟩
    have e : fnd r1.1 = fnd E := by show findD _ = _; rw [b2 h1]
    rw [e] at hx
    exact hu x f hx
end Go.Proofs.YtgdmdbdljmlkkaaGreatDoor
