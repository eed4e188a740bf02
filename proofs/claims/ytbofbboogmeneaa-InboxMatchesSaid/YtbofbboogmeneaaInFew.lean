/- Operations that came in, and whether they are few and small. -/
import Derived.Test.YtbofbboogmeneaaInSame
import Derived.Test.YtbofbboogmeneaaOpenVal
namespace Go.Proofs.Ytbofbboogmeneaa
set_option linter.unusedVariables false
set_option linter.unusedSimpArgs false
open Go.RowKit

/-- An operation as its cells, and its payload as a tree. -/
structure OpD where
  k : Int
  name : ByteArray
  id : Nat
  v : VV
  t : VT

abbrev ocells (o : OpD) : List Value := .int .i64 o.k :: .string o.name :: .int .u64 o.id :: o.v.cells
theorem ocells_len (o : OpD) : (ocells o).length = 8 := rfl

/-- A list of operations in memory. -/
structure Ops (w : World) (v : Value) (l : List OpD) : Prop where
  reads : Reads w v l.length 8 (l.flatMap ocells)
  small : l.length ≤ maxLen
  vals : ∀ o ∈ l, TRead w (fun _ => True) o.t o.v ∧ o.name.size ≤ maxLen

theorem Ops.cells {w : World} {v : Value} {l : List OpD} (h : Ops w v l) (hn : 0 < l.length) :
    ∃ b o c, v = .slice (some ⟨b, o, none⟩) l.length c ∧ l.length ≤ c ∧ b < w.heap.size ∧ ∀ j (hj : j < l.length), w.cell? ⟨b, o + j * 8, none⟩ = some (.int .i64 l[j].k) ∧ w.cell? ⟨b, o + j * 8 + 1, none⟩ = some (.string l[j].name) ∧ w.cell? ⟨b, o + j * 8 + 2, none⟩ = some (.int .u64 l[j].id) ∧
      w.cell? ⟨b, o + j * 8 + 3, none⟩ = some (.int .i64 l[j].v.k) ∧ w.cell? ⟨b, o + j * 8 + 4, none⟩ = some (.int .i64 l[j].v.n) ∧ w.cell? ⟨b, o + j * 8 + 5, none⟩ = some (.float .f64 l[j].v.f) ∧ w.cell? ⟨b, o + j * 8 + 6, none⟩ = some (.string l[j].v.s) ∧ w.cell? ⟨b, o + j * 8 + 7, none⟩ = some (.slice l[j].v.a l[j].v.l l[j].v.c) := by
  have hr := h.reads
  obtain ⟨-, ao, c, rfl, -⟩ := id hr
  obtain ⟨b, o, rfl, h1, -, h2, h3⟩ := hr.atN hn (by decide)
  refine ⟨b, o, c, rfl, h1, h2, fun j hj => ⟨?_, ?_, ?_, ?_, ?_, ?_, ?_, ?_⟩⟩
  · exact h3 (j * 8) _ (by simpa using fm_get ocells_len (List.getElem?_eq_getElem hj) 0 _ rfl)
  all_goals rw [Nat.add_assoc]
  · exact h3 (j * 8 + 1) _ (fm_get ocells_len (List.getElem?_eq_getElem hj) 1 _ rfl)
  · exact h3 (j * 8 + 2) _ (fm_get ocells_len (List.getElem?_eq_getElem hj) 2 _ rfl)
  · exact h3 (j * 8 + 3) _ (fm_get ocells_len (List.getElem?_eq_getElem hj) 3 _ rfl)
  · exact h3 (j * 8 + 4) _ (fm_get ocells_len (List.getElem?_eq_getElem hj) 4 _ rfl)
  · exact h3 (j * 8 + 5) _ (fm_get ocells_len (List.getElem?_eq_getElem hj) 5 _ rfl)
  · exact h3 (j * 8 + 6) _ (fm_get ocells_len (List.getElem?_eq_getElem hj) 6 _ rfl)
  · exact h3 (j * 8 + 7) _ (fm_get ocells_len (List.getElem?_eq_getElem hj) 7 _ rfl)

theorem Ops.later {w w' : World} {v : Value} {l : List OpD} (h : Ops w v l) (hb : Below w.heap.size w w') : Ops w' v l :=
  ⟨h.reads.later hb, h.small, fun o ho => ⟨(h.vals o ho).1.later hb, (h.vals o ho).2⟩⟩

def okO (o : OpD) : Bool := decide (o.name.size ≤ 300) && fewT o.t
def fewO (l : List OpD) : Bool := l.all okO && decide (l.length ≤ 100)

set_option maxRecDepth 100000 in
set_option maxHeartbeats 1000000 in
theorem few22_any (lv : Value) (l : List OpD) (w : World) (h : Ops w lv l) :
    Calls Try.prog 25 #[lv] w fun e w' => e = .returned (.bool (fewO l)) ∧ Below w.heap.size w w' := by
  have HO := Lib.hid h
  have hsm := h.small
  unfold maxLen at hsm
  obtain ⟨-, la, lc, rfl, hlc, -, -⟩ := h.reads
  have HBAD : Hid (∀ m (hm : m < l.length), okO l[m] = false → fewO l = false) := fun m hm hk => by
    unfold fewO
    rw [List.all_eq_false.2 ⟨_, List.getElem_mem hm, by simp [hk]⟩]; rfl
  have HALL : Hid ((∀ m (hm : m < l.length), okO l[m] = true) → fewO l = decide ((l.length : Int) ≤ 100)) := fun hall => by
    unfold fewO
    rw [List.all_eq_true.2 (fun o ho => by obtain ⟨m, hm, rfl⟩ := List.mem_iff_getElem.1 ho; exact hall m hm), Bool.true_and]
    exact decide_eq_decide.2 (by omega)
  generalize fewO l = fb at *
  clear h
  go_enter Try.func25, Try.ntmps25
  go_wp2
  go_loopw [7] (fun i w' => ∃ m : Nat, m ≤ l.length ∧ i = .int .i64 m ∧ Hid (∀ j (hj : j < l.length), j < m → okO l[j] = true) ∧ Hid (Below w.heap.size w w')) (fun i _ => l.length - (RowKit.intOf i).toNat)
  case atStart => exact ⟨0, by omega, rfl, fun j _ h => by omega, Below.refl _ _⟩
  case round =>
    obtain ⟨m, hm, rfl, HLOW, HB⟩ := hrel
    by_cases hlt : m < l.length
    · obtain ⟨b, o, c, he, hcap, hb, hcell⟩ := (HO.out.later HB.out).cells (by omega)
      obtain ⟨rfl, rfl⟩ : la = some ⟨b, o, none⟩ ∧ lc = c := by cases he; exact ⟨rfl, rfl⟩
      obtain ⟨hc0, hc1, hc2, hc3, hc4, hc5, hc6, hc7⟩ := hcell m hlt
      have HV := Lib.hid (HO.out.vals _ (List.getElem_mem hlt)).1
      have HBAD2 := Lib.hid (HBAD.out m hlt)
      have HN : Hid (okO l[m] = true → ∀ j (hj : j < l.length), j < m + 1 → okO l[j] = true) := fun hk j hj hjm => by
        rcases Nat.lt_or_ge j m with h | h
        · exact HLOW.out j hj h
        · have : j = m := by omega
          subst this; exact hk
      have HOK : Hid (okO l[m] = (decide (l[m].name.size ≤ 300) && fewT l[m].t)) := rfl
      have HS := (HO.out.vals _ (List.getElem_mem hlt)).2
      unfold maxLen at HS
      generalize okO l[m] = ok at *
      generalize l[m].t = t at *
      generalize l[m].v = v at *
      generalize l[m].name = name at *
      generalize l[m].k = kind at *
      generalize l[m].id = id at *
      clear hcell he
      have HBA := Lib.hid (HB.out.alloc HB.out.size (.cells #[.int .i64 kind, .string name, .int .u64 id, .int .i64 v.k, .int .i64 v.n, .float .f64 v.f, .string v.s, .slice v.a v.l v.c] 91))
      by_cases hs : name.size ≤ 300
      · have hsd : decide ((300 : Int) < (name.size : Int)) = false := by simp; omega
        have HFEW := Lib.hid (few_any t v _ (wr.alloc (.cells #[.int .i64 kind, .string name, .int .u64 id, .int .i64 v.k, .int .i64 v.n, .float .f64 v.f, .string v.s, .slice v.a v.l v.c] 91)) (HV.out.later HBA.out))
        simp only [VV.val] at HFEW
        cases hf : fewT t with
        | false =>
          rw [hf] at HFEW HOK
          have HR : Hid (fb = false) := HBAD2.out (by rw [HOK.out]; simp)
          clear hf
          go_wp2_with fail
          refine HFEW.out.mono ?_
          rintro e w2 ⟨rfl, hb2⟩
          have HB2 := Lib.hid (HBA.out.trans (hb2.mono HBA.out.size))
          clear hb2
          go_wp2
          go_ret
          exact ⟨congrArg (fun x => Ending.returned (.bool x)) HR.out.symm, HB2.out⟩
        | true =>
          rw [hf] at HFEW HOK
          have HR : Hid (ok = true) := by rw [Hid, HOK.out]; simp [hs]
          have HN2 := Lib.hid (HN.out HR.out)
          clear hf
          go_wp2_with fail
          refine HFEW.out.mono ?_
          rintro e w2 ⟨rfl, hb2⟩
          have HB2 := Lib.hid (HBA.out.trans (hb2.mono HBA.out.size))
          clear hb2
          go_wp2
          go_roundw
          case rel => exact ⟨m + 1, by omega, by go_num, HN2, HB2⟩
          case measure => simp [RowKit.intOf]; omega
      · have hsd : decide ((300 : Int) < (name.size : Int)) = true := by simp; omega
        have HR : Hid (fb = false) := HBAD2.out (by rw [HOK.out]; simp [hs])
        go_wp2
        go_ret
        exact ⟨congrArg (fun x => Ending.returned (.bool x)) HR.out.symm, HBA.out⟩
    · have HR := Lib.hid (HALL.out (fun j hj => HLOW.out j hj (by omega)))
      go_wp2
      go_ret
      exact ⟨congrArg (fun x => Ending.returned (.bool x)) HR.out.symm, HB.out⟩
end Go.Proofs.Ytbofbboogmeneaa
