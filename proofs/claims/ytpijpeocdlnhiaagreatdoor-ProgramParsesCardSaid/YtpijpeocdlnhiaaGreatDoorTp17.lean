/- Texts for programTexts_holds, joined: QPlain2, QCut, QCheck, QParse, QRFields. -/
import Derived.Test.YtpijpeocdlnhiaaGreatDoorTp10
import Derived.Lib.CountLaws
import Derived.Test.YtpijpeocdlnhiaaGreatDoorTp16
import Derived.Test.YtpijpeocdlnhiaaGreatDoorTp09
import Derived.OwnWalk
import Derived.Test.YtpijpeocdlnhiaaGreatDoorTp05
set_option linter.unusedVariables false
set_option linter.unusedSimpArgs false
namespace Go.Proofs.YtpijpeocdlnhiaaGreatDoor
open Go.RowKit
def partsB (s sep : ByteArray) : List ByteArray := Lib.splitB sep 0 (Lib.countB s sep) s
theorem partsB_hit {s sep : ByteArray} {i : Nat} (h1 : 1 ≤ sep.size) (h : Lib.indexB s sep = i) : partsB s sep = s.extract 0 i :: partsB (s.extract (i + sep.size) s.size) sep := by
  unfold partsB
  rw [Lib.countB_hit s sep i h1 h, Nat.add_comm, Lib.splitB_hit sep 0 _ s i h, Nat.add_zero]
theorem partsB_miss {s sep : ByteArray} (h : Lib.indexB s sep = -1) : partsB s sep = [s] := by
  unfold partsB
  rw [Lib.splitB_miss _ _ _ _ h]
theorem partsB_data (s sep : ByteArray) : (partsB s sep).map (·.data.toList) = Lib.split s.data.toList sep.data.toList := by
  unfold partsB Lib.split
  rw [Lib.splitB_data]
theorem partsB_length (s sep : ByteArray) (h1 : 1 ≤ sep.size) : (partsB s sep).length = Lib.countB s sep + 1 := Lib.splitB_all sep h1 0 _ s rfl
theorem partsB_count (s sep : ByteArray) : Lib.countB s sep ≤ s.size + 1 := by
  have := Lib.count_le s.data.toList sep.data.toList
  rw [Lib.size_eq]
  exact this
theorem splitB_size (sep : ByteArray) : ∀ (k : Nat) (s : ByteArray), ∀ p ∈ Lib.splitB sep 0 k s, p.size ≤ s.size
  | 0, s, p, hp => by
    rw [Lib.splitB_zero] at hp
    rw [List.mem_singleton.1 hp]; exact Nat.le_refl _
  | k + 1, s, p, hp => by
    by_cases h : Lib.indexB s sep = -1
    · rw [Lib.splitB_miss _ _ _ _ h] at hp
      rw [List.mem_singleton.1 hp]; exact Nat.le_refl _
    · have hi : ∃ i : Nat, Lib.indexB s sep = i := by
        refine ⟨(Lib.indexB s sep).toNat, ?_⟩
        unfold Lib.indexB at h ⊢
        have := Lib.index_ge s.data.toList sep.data.toList
        omega
      obtain ⟨i, hi⟩ := hi
      rw [Lib.splitB_hit _ _ _ _ _ hi] at hp
      rcases List.mem_cons.1 hp with rfl | hp
      · rw [ByteArray.size_extract]; omega
      · have := splitB_size sep k _ p hp
        rw [ByteArray.size_extract] at this; omega
theorem partsB_size {s sep p : ByteArray} (hp : p ∈ partsB s sep) : p.size ≤ s.size := splitB_size sep _ s p hp
def cutS (st : ByteArray → ST) (s : ByteArray) : List ST := if s.size = 0 then [] else (partsB s semi).map st
def cutP (st : ByteArray → ST) (s : ByteArray) : List (List ST) := (partsB s bar).map (cutS st)
theorem cutS_length (st : ByteArray → ST) (s : ByteArray) : (cutS st s).length ≤ s.size + 2 := by
  unfold cutS
  split
  · simp
  · rw [List.length_map, partsB_length _ _ (by decide)]
    have := partsB_count s semi
    omega
theorem cutP_each (st : ByteArray → ST) (s : ByteArray) : ∀ l ∈ cutP st s, l.length ≤ s.size + 2 ∧ ∀ x ∈ l, ∃ p : ByteArray, p.size ≤ s.size ∧ x = st p := fun l hl => by
  unfold cutP at hl
  obtain ⟨q, hq, rfl⟩ := List.mem_map.1 hl
  have h1 := partsB_size hq
  refine ⟨?_, fun x hx => ?_⟩
  · have := cutS_length st q; omega
  · unfold cutS at hx
    split at hx
    · cases hx
    · obtain ⟨p, hp, rfl⟩ := List.mem_map.1 hx
      exact ⟨p, by have := partsB_size hp; omega, rfl⟩
def ReadsBack (st : ByteArray → ST) : Prop := ∀ x : ST, NormS x → x.ok → st (stextB x) = x
theorem map_data_inj : ∀ {a b : List ByteArray}, a.map (·.data.toList) = b.map (·.data.toList) → a = b
  | [], [], _ => rfl
  | [], _ :: _, h => by cases h
  | _ :: _, [], h => by cases h
  | x :: a, y :: b, h => by
    rw [List.map_cons, List.map_cons] at h
    obtain ⟨h1, h2⟩ := List.cons.inj h
    rw [map_data_inj h2, show x = y by rw [← ba_data x, h1, ba_data]]
theorem parts_lr (x : ST) (r : List ST) (hl : ∀ y ∈ x :: r, NormS y) : partsB ⟨(lrT (x :: r)).toArray⟩ semi = (x :: r).map stextB := by
  apply map_data_inj
  rw [partsB_data]
  have := split_join (c := 59) (pre := []) (post := [32]) (by simp) (stextB x).data.toList (r.map fun x => (stextB x).data.toList) (fun u hu => by
    rw [← List.map_cons (f := fun x => (stextB x).data.toList)] at hu
    obtain ⟨y, hy, rfl⟩ := List.mem_map.1 hu
    exact fun hc => (stext_char (hl y hy) 59 hc).1 rfl)
  simp only [List.nil_append] at this
  show Lib.split (lrT (x :: r)) [59, 32] = _
  unfold lrT
  rw [List.map_cons, this, List.map_map, List.map_cons]
  rfl
theorem cutS_text {st : ByteArray → ST} (hst : ReadsBack st) (l : List ST) (hl : ∀ x ∈ l, NormS x ∧ x.ok) : cutS st ⟨(lrT l).toArray⟩ = l := by
  unfold cutS
  cases l with
  | nil => rw [if_pos (by rfl)]
  | cons x r =>
    have hne : lrT (x :: r) ≠ [] := join_ne (stext_ne (hl x (by simp)).1)
    rw [if_neg (fun e => hne (by
      rw [mk_size] at e
      exact List.eq_nil_of_length_eq_zero e))]
    rw [parts_lr x r (fun y hy => (hl y hy).1), List.map_map]
    conv => rhs; rw [← List.map_id (x :: r)]
    exact List.map_congr_left fun y hy => hst y (hl y hy).1 (hl y hy).2
theorem lrT_no124 (l : List ST) (hl : ∀ x ∈ l, NormS x) : (124 : UInt8) ∉ lrT l := by
  unfold lrT
  refine join_char (by simp) (fun u hu => ?_)
  obtain ⟨y, hy, rfl⟩ := List.mem_map.1 hu
  exact fun hc => (stext_char (hl y hy) 124 hc).2 rfl
theorem parts_lp (a : List ST) (r : List (List ST)) (hl : ∀ l ∈ a :: r, ∀ x ∈ l, NormS x) : partsB ⟨(lpT (a :: r)).toArray⟩ bar = (a :: r).map (fun l => ⟨(lrT l).toArray⟩) := by
  apply map_data_inj
  rw [partsB_data]
  have := split_join (c := 124) (pre := [32]) (post := [32]) (by simp) (lrT a) (r.map lrT) (fun u hu => by
    rw [← List.map_cons (f := lrT)] at hu
    obtain ⟨y, hy, rfl⟩ := List.mem_map.1 hu
    exact lrT_no124 y (hl y hy))
  simp only [List.cons_append, List.nil_append] at this
  show Lib.split (lpT (a :: r)) [32, 124, 32] = _
  unfold lpT
  rw [List.map_cons, this, List.map_map]
  simp only [List.map_cons, Function.comp_def]
theorem cutP_text {st : ByteArray → ST} (hst : ReadsBack st) (L : List (List ST)) (h0 : L ≠ []) (hl : ∀ l ∈ L, ∀ x ∈ l, NormS x ∧ x.ok) : cutP st ⟨(lpT L).toArray⟩ = L := by
  unfold cutP
  cases L with
  | nil => exact absurd rfl h0
  | cons a r =>
    rw [parts_lp a r (fun l h x hx => (hl l h x hx).1), List.map_map]
    conv => rhs; rw [← List.map_id (a :: r)]
    exact List.map_congr_left fun y hy => cutS_text hst y (hl y hy)
def RightL (L : List (List ST)) : Prop := 1 ≤ L.length ∧ L.length ≤ 20 ∧ ∀ l ∈ L, l.length ≤ 200 ∧ ∀ x ∈ l, rightB x L.length l.length = true
theorem rightP_iff (P : List RT) : RightP P ↔ RightL (P.map RT.l) := by
  unfold RightP RightL fineR
  rw [List.length_map]
  refine and_congr_right fun _ => and_congr_right fun _ => ⟨fun h l hl => ?_, fun h r hr => h r.l (List.mem_map_of_mem hr)⟩
  obtain ⟨r, hr, rfl⟩ := List.mem_map.1 hl
  exact h r hr
theorem RightL.ne {L : List (List ST)} (h : RightL L) : L ≠ [] := fun e => by have := h.1; rw [e] at this; simp at this
theorem RightL.norm {L : List (List ST)} (h : RightL L) : ∀ l ∈ L, ∀ x ∈ l, NormS x := fun l hl x hx => (rightB_norm ((h.2.2 l hl).2 x hx)).1
instance (L : List (List ST)) : Decidable (RightL L) := by unfold RightL; infer_instance
def TextIs (L : List (List ST)) (s : ByteArray) : Prop := RightL L ∧ lpT L = s.data.toList
theorem parse_back {st : ByteArray → ST} (hst : ReadsBack st) {L : List (List ST)} {s : ByteArray} (h : TextIs L s) (ho : ∀ l ∈ L, ∀ x ∈ l, x.ok) : cutP st s = L := by
  have := cutP_text hst L h.1.ne (fun l hl x hx => ⟨h.1.norm l hl x hx, ho l hl x hx⟩)
  rw [h.2, ba_data] at this
  exact this
theorem stepP_ok (s : ByteArray) (hs : s.size ≤ 1000000) : (stepP s).ok := by
  unfold stepP
  refine ⟨?_, ?_, ?_⟩
  · have := ixIn_bounds ⟨(wordOf s.data.toList).toArray⟩ wordsL 0
    have h13 : wordsL.length = 13 := rfl
    rw [h13] at this
    constructor
    · show -9223372036854775808 ≤ ixIn _ _ _; omega
    · show ixIn _ _ _ ≤ 9223372036854775807; omega
  · show -9223372036854775808 ≤ ite _ _ _ ∧ ite _ _ _ ≤ (9223372036854775807 : Int)
    split
    · exact intP_bounds _
    · decide
  · show (ite _ _ _ : ByteArray).size ≤ maxLen
    split
    · have hl : (restOf s.data.toList).length ≤ s.data.toList.length := by
        unfold restOf Lib.cut
        split
        · simp
        · simp
      have hw := (parseP_ok 8 (restOf s.data.toList) (by rw [← Lib.size_eq] at hl; unfold maxLen; omega)).1
      unfold ParseP
      split
      · show ((parseP 8 (restOf s.data.toList)).1).s.size ≤ maxLen
        generalize (parseP 8 (restOf s.data.toList)).1 = t at hw
        obtain ⟨k, n, f, s, l⟩ := t
        rw [wfT] at hw
        exact hw.2.2.2.1
      · decide
    · decide
theorem stepR_ok (s : ByteArray) (hs : s.size ≤ 1000000) : (stepR s).ok := by
  unfold stepR
  split
  · exact ⟨by decide, by decide, by decide⟩
  refine ⟨?_, ?_, ?_⟩
  · have := ixIn_bounds ⟨(headR s.data.toList).toArray⟩ wordsL.tail 1
    have h13 : wordsL.tail.length = 12 := rfl
    rw [h13] at this
    constructor
    · show -9223372036854775808 ≤ ixIn _ _ _; omega
    · show ixIn _ _ _ ≤ 9223372036854775807; omega
  · show -9223372036854775808 ≤ ite _ _ _ ∧ ite _ _ _ ≤ (9223372036854775807 : Int)
    split
    · exact numberR_bounds _
    · decide
  · show (ite _ _ _ : ByteArray).size ≤ maxLen
    split
    · rw [mk_size]
      have h1 := unhexRL_length (midR (tailR s.data.toList))
      have h2 : (midR (tailR s.data.toList)).length ≤ s.data.toList.length := by
        unfold midR tailR
        simp only [List.length_take, List.length_drop]; omega
      rw [← Lib.size_eq] at h2
      show (unhexRL _).length ≤ maxLen
      unfold maxLen; omega
    · decide
theorem backP : ReadsBack stepP := fun x h ho => stepP_text h ho
theorem backR : ReadsBack stepR := fun x h ho => stepR_text h ho
theorem ok_cut {st : ByteArray → ST} (hst : ∀ p : ByteArray, p.size ≤ 1000000 → (st p).ok) {s : ByteArray} (hs : s.size ≤ 1000000) : ∀ l ∈ cutP st s, ∀ x ∈ l, x.ok := fun l hl x hx => by
  obtain ⟨p, hp, rfl⟩ := (cutP_each st s l hl).2 x hx
  exact hst p (by omega)
theorem readers_agree (s : ByteArray) (hs : s.size ≤ 1000000) : (TextIs (cutP stepP s) s ↔ TextIs (cutP stepR s) s) ∧ (TextIs (cutP stepP s) s → cutP stepP s = cutP stepR s) := by
  have h1 : TextIs (cutP stepP s) s → cutP stepR s = cutP stepP s := fun h => parse_back backR h (ok_cut stepP_ok hs)
  have h2 : TextIs (cutP stepR s) s → cutP stepP s = cutP stepR s := fun h => parse_back backP h (ok_cut stepR_ok hs)
  exact ⟨⟨fun h => by rw [h1 h]; exact h, fun h => by rw [h2 h]; exact h⟩, fun h => (h1 h).symm⟩
def CutPost (w : World) (l : List ST) (e : Ending) (w' : World) : Prop :=
  ∃ r : RT, e = .returned r.v ∧ r.l = l ∧ r.inw w' ∧ (∀ ad, r.a = some ad → w.heap.size ≤ ad.block ∧ ad.block < w'.heap.size) ∧ Below w.heap.size w w'
def Fine (s : ByteArray) : Prop := s.size ≤ 20000000 ∧ ∀ p ∈ partsB s bar, ∀ q ∈ partsB p semi, q.size ≤ 9000
theorem fine_small {s : ByteArray} (h : s.size ≤ 9000) : Fine s := ⟨by omega, fun p hp q hq => by have := partsB_size hp; have := partsB_size hq; omega⟩
theorem psplit_any (s sep : ByteArray) (hs : s.size ≤ 20000000) (h1 : 1 ≤ sep.size) (w : World) (hw : PW w) :
    Calls Tryz.prog 93 #[.string s, .string sep] w fun e w' => ∃ b o, e = .returned (.slice (some ⟨b, o, none⟩) (partsB s sep).length (partsB s sep).length) ∧ b < w'.heap.size ∧ (∀ (j : Nat) (x : ByteArray), (partsB s sep)[j]? = some x → w'.cell? ⟨b, o + j, none⟩ = some (.string x)) ∧ Below w.heap.size w w' := by
  obtain ⟨m, hm⟩ := hw.maxl
  refine (Tryz.strings_Split s sep m w (by omega) hm h1).mono ?_
  rintro e w' ⟨rfl, rfl⟩
  rw [← partsB_length s sep h1]
  refine ⟨w.heap.size, 0, rfl, by simp, fun j x hx => ?_, (Below.refl _ _).alloc (Nat.le_refl _) _⟩
  rw [Nat.zero_add]
  refine cellAt (heap_alloc_new _ _) j ?_
  show ((partsB s sep).map Value.string).toArray[j]? = _
  rw [List.getElem?_toArray, List.getElem?_map, hx]; rfl
set_option maxRecDepth 100000 in
set_option maxHeartbeats 4000000 in
theorem scut_any (s : ByteArray) (hs : s.size ≤ 20000000) (hps : ∀ p ∈ partsB s semi, p.size ≤ 9000) (w : World) (hw : PW w) :
    Calls Tryz.prog 63 #[.string s, .string ⟨#[59, 32]⟩, .func (.func 64) #[] #[]] w (CutPost w ((partsB s semi).map stepP)) := by
  have HS0 := psplit_any s semi hs (by decide) w hw
  unfold semi at HS0
  have HS := Lib.hid HS0
  have HW := Lib.hid hw
  have hpl : (partsB s semi).length ≤ 20000002 := by
    rw [partsB_length _ _ (by decide)]
    have := partsB_count s semi
    omega
  have HPS : Hid (∀ p ∈ partsB s semi, p.size ≤ 9000) := hps
  clear hps
  have HC1 : Hid (∀ (r : RT) w', r.l = (partsB s semi).map stepP → r.inw w' → (∀ ad, r.a = some ad → w.heap.size ≤ ad.block ∧ ad.block < w'.heap.size) → Below w.heap.size w w' → CutPost w ((partsB s semi).map stepP) (.returned r.v) w') := fun r w' h1 h2 h3 h4 => ⟨r, rfl, h1, h2, h3, h4⟩
  obtain ⟨Q, hQ⟩ : ∃ Q, Q = CutPost w ((partsB s semi).map stepP) := ⟨_, rfl⟩
  rw [← hQ] at HC1 ⊢
  clear hQ hs hw HS0
  unfold semi at *
  generalize partsB s ⟨#[59, 32]⟩ = xs at *
  have HTK : Hid (∀ m (hm : m < xs.length), ((xs.take (m + 1)).map stepP).flatMap stcells = ((xs.take m).map stepP).flatMap stcells ++ stcells (stepP xs[m])) := fun m hm => by
    rw [List.take_succ_eq_append_getElem hm, List.map_append, List.flatMap_append]; simp
  go_enter Tryz.func63, Tryz.ntmps63
  go_wp2_with fail
  refine HS.out.mono ?_
  rintro e w1 ⟨b, o, rfl, hb, hcells, hb1⟩
  have HB1 := Lib.hid hb1
  have HCELLS := Lib.hid hcells
  clear hb1 hcells HS
  go_wp2_with fail
  go_loopw [7, 14] (fun out i w' => ∃ m : Nat, m ≤ xs.length ∧ i = .int .i64 m ∧ Hid (Row w' 82 3 out m (((xs.take m).map stepP).flatMap stcells) (fun k => w1.heap.size ≤ k)) ∧ Hid (Below w1.heap.size w1 w')) (fun _ i _ => xs.length - (RowKit.intOf i).toNat)
  case atStart => exact ⟨0, by omega, rfl, Row.nil _ _ _ _, Below.refl _ _⟩
  case round =>
    obtain ⟨m, hm, rfl, HO, HB⟩ := hrel
    by_cases hlt : m < xs.length
    · have hc : wr.cell? ⟨b, o + m, none⟩ = some (.string xs[m]) := (HB.out.cell (p := ⟨b, o + m, none⟩) hb).trans (HCELLS.out m _ (List.getElem?_eq_getElem hlt))
      have HGW := Lib.hid (step_any xs[m] (HPS.out _ (List.getElem_mem hlt)) wr (HW.out.later (HB1.out.trans (HB.out.mono HB1.out.size))))
      have HTM := Lib.hid (HTK.out m hlt)
      generalize xs[m] = x at *
      unfold ST.val at HGW
      generalize stepP x = y at *
      obtain ⟨yk, yn, ys⟩ := y
      simp only at *
      go_wp2_with fail
      refine HGW.out.mono ?_
      rintro e w4 ⟨rfl, hb4⟩
      have HB4 := Lib.hid (HB.out.trans (hb4.mono HB.out.size))
      have HO4 : Hid (Row w4 82 3 u7 m (((xs.take m).map stepP).flatMap stcells) (fun k => w1.heap.size ≤ k)) := HO.out.frame (fun k _ hk => hb4.block k hk)
      clear hb4 hc HGW
      have hbl := HB4.out.size
      go_wp2_with (
        refine wpList_row elemStep rfl rfl (S := fun k => w1.heap.size ≤ k) (n := m) (xs := ((xs.take m).map stepP).flatMap stcells) rfl (HO4.out.frame (fun k _ hk => Below.heap_alloc _ _ _ hk)) (y := .slice (some ⟨w4.heap.size, 0, none⟩) 1 1) (m := 1) (news := [.int .i64 yk, .int .i64 yn, .string ys]) rfl (Reads.single (heap_alloc_new w4 _)) (by intro u hu; simp only [List.mem_cons, List.not_mem_nil, or_false] at hu; rcases hu with rfl | rfl | rfl <;> rfl) (by unfold maxLen; omega) (by omega) ?_
        intro v5 w5 hr5 hch5)
      go_roundw
      case rel =>
        refine ⟨m + 1, by omega, by go_num, ?_, (HB4.out.alloc hbl _).trans (hch5.toBelow (by simp <;> omega) (fun n hn h => by omega))⟩
        rw [Hid, HTM.out]
        exact hr5.mono (fun k hk => by rcases hk with hk | hk; exact hk; simp only [World.size_alloc] at hk; omega)
      case measure => simp [RowKit.intOf]; omega
    · obtain rfl : m = xs.length := by omega
      rw [List.take_length] at HO
      have HV : Hid (∃ r : RT, u7 = r.v ∧ Q (.returned r.v) wr) := by
        have hO := HO.out
        have hl : xs.length = (xs.map stepP).length := by rw [List.length_map]
        rw [hl] at hO
        obtain ⟨r2, h1, h2, h3, h4⟩ := hO.rt
        have hB := HB1.out.size
        refine ⟨r2, h2, HC1.out r2 wr h1 ⟨h4, ?_, ?_, ?_⟩ (fun ad had => by have := h3 ad had; omega) (HB1.out.trans (HB.out.mono hB))⟩
        · rw [h1, ← hl]; unfold maxLen; omega
        · rw [h1]
          intro x hx
          obtain ⟨p, hp, rfl⟩ := List.mem_map.1 hx
          exact stepP_ok p (by have := HPS.out p hp; omega)
        · rw [h1, ← hl]; omega
      obtain ⟨r, rfl, hq⟩ := HV.out
      have HQ := Lib.hid hq
      clear hq HV
      generalize r.v = rv at *
      go_wp2
      exact HQ.out
set_option maxRecDepth 100000 in
set_option maxHeartbeats 4000000 in
theorem parse1_any (s : ByteArray) (hs : s.size ≤ 20000000) (hps : ∀ p ∈ partsB s semi, p.size ≤ 9000) (w : World) (hw : PW w) :
    Calls Tryz.prog 62 #[.string s] w (CutPost w (cutS stepP s)) := by
  by_cases h0 : s = ⟨#[]⟩
  · have HV : Hid (CutPost w (cutS stepP s) (.returned (.slice none 0 0)) w) := by
      refine ⟨⟨[], none, 0⟩, rfl, ?_, ⟨Reads.nil _ _, Nat.zero_le _, by simp, by simp⟩, (fun ad h => by cases h), Below.refl _ _⟩
      unfold cutS; rw [h0]; rfl
    generalize CutPost w (cutS stepP s) = Q at *
    subst h0
    go_enter Tryz.func62, Tryz.ntmps62
    go_wp2
    exact HV.out
  · have he := str_isEmpty h0
    have HS0 := scut_any s hs hps w hw
    have hz : ¬ s.size = 0 := fun e => h0 (by rw [← ba_data' s, List.eq_nil_of_length_eq_zero (l := s.data.toList) (by rw [← Lib.size_eq]; exact e)])
    have e : cutS stepP s = (partsB s semi).map stepP := by unfold cutS; rw [if_neg hz]
    rw [← e] at HS0
    have HS := Lib.hid HS0
    have HC1 : Hid (∀ (r : RT) w', CutPost w (cutS stepP s) (.returned r.v) w' → CutPost w (cutS stepP s) (.returned r.v) w') := fun r w' h => h
    have HE : Hid (∀ e w', CutPost w (cutS stepP s) e w' → ∃ r : RT, e = .returned r.v) := fun e w' ⟨r, h, _⟩ => ⟨r, h⟩
    generalize CutPost w (cutS stepP s) = Q at *
    clear HS0 e hz h0
    go_enter Tryz.func62, Tryz.ntmps62
    go_wp2_with fail
    refine HS.out.mono ?_
    rintro e w1 hq
    obtain ⟨r, rfl⟩ := HE.out _ _ hq
    have HQ := Lib.hid hq
    clear hq HS HE HC1
    generalize r.v = rv at *
    go_wp2
    exact HQ.out
def CutsPost (w : World) (L : List (List ST)) (e : Ending) (w' : World) : Prop :=
  ∃ (P : List RT) (a : Option Addr) (c : Nat), e = .returned (.slice a P.length c) ∧ PrgU w' (.slice a P.length c) P ∧ P.map RT.l = L ∧ Below w.heap.size w w'
theorem elemRows : ElemOf Tryz.prog 46 83 (.slice none 0 0) 1 24 := ⟨Tryz.underlying46, by kernel_rfl, rfl, by decide⟩
theorem GivenI.prg {t : TypeId} {w wr : World} {out : Value} {P2 : List RT} {B : List Nat} (h : GivenI t w wr out P2 B) (hl : P2.length ≤ 100000000) : ∃ a2 c2, out = .slice a2 P2.length c2 ∧ PrgU wr (.slice a2 P2.length c2) P2 := by
  have hr := h.row.reads
  obtain ⟨_, ao, c2, hv, _⟩ := id hr
  exact ⟨ao, c2, hv, hv ▸ hr, fun r hr => (h.each r hr).1, by unfold maxLen; omega, by omega⟩
theorem GivenI.nil (t : TypeId) (w wr : World) : GivenI t w wr (.slice none 0 0) [] [] := ⟨Row.nil _ _ _ _, by simp, by simp⟩
set_option maxRecDepth 100000 in
set_option maxHeartbeats 4000000 in
theorem pcut_any (s : ByteArray) (hs : Fine s) (w : World) (hw : PW w) :
    Calls Tryz.prog 61 #[.string s, .string ⟨#[32, 124, 32]⟩, .func (.func 62) #[] #[]] w (CutsPost w (cutP stepP s)) := by
  have HS0 := psplit_any s bar hs.1 (by decide) w hw
  unfold bar at HS0
  have HS := Lib.hid HS0
  have HW := Lib.hid hw
  have hpl : (partsB s bar).length ≤ 20000002 := by
    rw [partsB_length _ _ (by decide)]
    have := partsB_count s bar
    have := hs.1
    omega
  have HPS : Hid (∀ p ∈ partsB s bar, p.size ≤ 20000000 ∧ ∀ q ∈ partsB p semi, q.size ≤ 9000) := fun p hp => ⟨by have := partsB_size hp; have := hs.1; omega, hs.2 p hp⟩
  have HC1 : Hid (∀ (P : List RT) (a : Option Addr) (c : Nat) w', PrgU w' (.slice a P.length c) P → P.map RT.l = (partsB s bar).map (cutS stepP) → Below w.heap.size w w' → CutsPost w (cutP stepP s) (.returned (.slice a P.length c)) w') := fun P a c w' h1 h2 h3 => ⟨P, a, c, rfl, h1, h2, h3⟩
  obtain ⟨Q, hQ⟩ : ∃ Q, Q = CutsPost w (cutP stepP s) := ⟨_, rfl⟩
  rw [← hQ] at HC1 ⊢
  clear hQ hs hw HS0
  unfold bar at *
  generalize partsB s ⟨#[32, 124, 32]⟩ = xs at *
  have HTK : Hid (∀ m (hm : m < xs.length), ((xs.take (m + 1)).map (cutS stepP)) = ((xs.take m).map (cutS stepP)) ++ [cutS stepP xs[m]]) := fun m hm => by
    rw [List.take_succ_eq_append_getElem hm, List.map_append]; rfl
  go_enter Tryz.func61, Tryz.ntmps61
  go_wp2_with fail
  refine HS.out.mono ?_
  rintro e w1 ⟨b, o, rfl, hb, hcells, hb1⟩
  have HB1 := Lib.hid hb1
  have HCELLS := Lib.hid hcells
  clear hb1 hcells HS
  go_wp2_with fail
  go_loopw [7, 14] (fun out i w' => ∃ (m : Nat) (P2 : List RT) (B : List Nat), m ≤ xs.length ∧ i = .int .i64 m ∧ Hid (P2.length = m) ∧ Hid (GivenI 83 w1 w' out P2 B) ∧ Hid (P2.map RT.l = (xs.take m).map (cutS stepP)) ∧ Hid (Below w1.heap.size w1 w')) (fun _ i _ => xs.length - (RowKit.intOf i).toNat)
  case atStart => exact ⟨0, [], [], by omega, rfl, rfl, GivenI.nil _ _ _, rfl, Below.refl _ _⟩
  case round =>
    obtain ⟨m, P2, B, hm, rfl, HLM, HG, HT, HB⟩ := hrel
    by_cases hlt : m < xs.length
    · have hc : wr.cell? ⟨b, o + m, none⟩ = some (.string xs[m]) := (HB.out.cell (p := ⟨b, o + m, none⟩) hb).trans (HCELLS.out m _ (List.getElem?_eq_getElem hlt))
      have HGW := Lib.hid (parse1_any xs[m] (HPS.out _ (List.getElem_mem hlt)).1 (HPS.out _ (List.getElem_mem hlt)).2 wr (HW.out.later (HB1.out.trans (HB.out.mono HB1.out.size))))
      have HT2 : Hid (∀ r : RT, r.l = cutS stepP xs[m] → (P2 ++ [r]).map RT.l = (xs.take (m + 1)).map (cutS stepP)) := fun r hr => by
        rw [HTK.out m hlt, List.map_append, HT.out]; simp [hr]
      generalize cutS stepP xs[m] = y at *
      generalize xs[m] = x at *
      have hszr := HB.out.size
      go_wp2_with fail
      refine HGW.out.mono ?_
      rintro e w4 ⟨⟨rl, ra, rc⟩, rfl, hrl, hin, ha, hb4⟩
      have HTN := Lib.hid (HT2.out ⟨rl, ra, rc⟩ hrl)
      have HIN := Lib.hid hin
      have HA := Lib.hid ha
      have HB2 := Lib.hid hb4
      have hbs2 := hb4.size
      clear hb4 hc HGW HT2 HT hrl hin ha
      obtain ⟨mm, hmm⟩ : ∃ mm, mm = P2.length := ⟨_, rfl⟩
      have HM : Hid (mm = P2.length) := hmm
      have hmm2 : mm = m := by rw [hmm]; exact HLM.out
      clear hmm HLM
      subst hmm2
      have HGR : Hid (Row w4 83 1 u7 mm (P2.map RT.v) (fun k => w1.heap.size ≤ k ∧ k < wr.heap.size ∧ k ∉ B)) := by
        rw [HM.out]; exact HG.out.row.frame (fun k hk hk2 => HB2.out.block k hk.2.1)
      simp only [RT.v]
      go_wp2_with (
        refine wpList_row elemRows rfl rfl (S := fun k => w1.heap.size ≤ k ∧ k < wr.heap.size ∧ k ∉ B) (n := mm) (xs := P2.map RT.v) rfl (HGR.out.frame (fun k _ hk => Below.heap_alloc _ _ _ hk)) (y := .slice (some ⟨w4.heap.size, 0, none⟩) 1 1) (m := 1) (news := [.slice ra rl.length rc]) rfl (reads_one w4 _ _) (one_of rfl) (by unfold maxLen; omega) (by omega) ?_
        intro v5 w5 hr5 hch5)
      have HS5 : Hid (∃ B', GivenI 83 w1 w5 v5 (P2 ++ [⟨rl, ra, rc⟩]) B') := by
        refine given_step hszr HG.out HB2.out HIN.out (fun ad had => HA.out ad had) ?_ hch5
        rw [← HM.out]
        exact hr5
      obtain ⟨B', HG5⟩ := HS5.out
      have HB5 : Hid (Below w1.heap.size w1 w5) := ((HB.out.trans (HB2.out.mono hszr)).alloc (by omega) _).trans (hch5.toBelow (by simp; omega) (fun n hn h => by have := h.1; omega))
      clear hr5 hch5 HS5 HGR HG HB2 HIN HA
      go_roundw
      case rel => exact ⟨mm + 1, P2 ++ [⟨rl, ra, rc⟩], B', by omega, by go_num, by simp [Hid, HM.out], Lib.hid HG5, HTN, HB5⟩
      case measure => simp [RowKit.intOf]; omega
    · obtain rfl : m = xs.length := by omega
      rw [List.take_length] at HT
      have HV : Hid (∃ a2 c2, u7 = .slice a2 P2.length c2 ∧ Q (.returned (.slice a2 P2.length c2)) wr) := by
        obtain ⟨a2, c2, h1, h2⟩ := HG.out.prg (by rw [HLM.out]; omega)
        exact ⟨a2, c2, h1, HC1.out P2 a2 c2 wr h2 HT.out (HB1.out.trans (HB.out.mono HB1.out.size))⟩
      obtain ⟨a2, c2, rfl, hq⟩ := HV.out
      have HQ := Lib.hid hq
      clear hq HV HLM
      go_wp2
      exact HQ.out
set_option maxRecDepth 100000 in
set_option maxHeartbeats 2000000 in
theorem check_u (rb : ST → Nat → Nat → Bool) (a : Option Addr) (c : Nat) (P : List RT) (w : World) (h : PrgU w (.slice a P.length c) P)
    (hr : ∀ r ∈ P, P.length ≤ 20 → r.l.length ≤ 200 → ∀ x ∈ r.l, ∀ W, Calls Tryz.prog 53 #[x.val, .int .i64 P.length, .int .i64 r.l.length] W fun e w' => e = .returned (.bool (rb x P.length r.l.length)) ∧ Below W.heap.size W w') :
    Calls Tryz.prog 27 #[.slice a P.length c] w (CPost w rb P) := by
  have HP := Lib.hid h
  have hP := h.ll
  unfold maxLen at hP
  have HR := Lib.hid hr
  have HC1 : Hid (∀ i k ok w', Checked rb P i k ok → Below w.heap.size w w' → CPost w rb P (.returned (.tuple #[.int .i64 i, .int .i64 k, .bool ok])) w') := fun i k ok w' h1 h2 => ⟨i, k, ok, rfl, h1, h2⟩
  obtain ⟨Q, hQ⟩ : ∃ Q, Q = CPost w rb P := ⟨_, rfl⟩
  rw [← hQ] at HC1 ⊢
  clear h hr hQ
  by_cases h0 : P.length = 0
  · have HV := Lib.hid (HC1.out 0 0 false w (.inl ⟨.inl h0, rfl, rfl, rfl⟩) (Below.refl _ _))
    have h0' : ((P.length : Int) == 0) = true := by simp [h0]
    rw [h0]
    go_enter Tryz.func27, Tryz.ntmps27
    go_wp2
    refine bodyPost_ret (results_tmp3 rfl _ _ _) rfl ?_
    exact HV.out
  · by_cases h20 : 20 < P.length
    · have HV := Lib.hid (HC1.out 0 0 false w (.inl ⟨.inr h20, rfl, rfl, rfl⟩) (Below.refl _ _))
      have h0' : ((P.length : Int) == 0) = false := by rw [beq_eq_false_iff_ne]; omega
      have h20' : 20 < (P.length : Int) := by omega
      go_enter Tryz.func27, Tryz.ntmps27
      go_wp2
      refine bodyPost_ret (results_tmp3 rfl _ _ _) rfl ?_
      exact HV.out
    · have h0' : ((P.length : Int) == 0) = false := by rw [beq_eq_false_iff_ne]; omega
      have h20' : ¬ 20 < (P.length : Int) := by omega
      go_enter Tryz.func27, Tryz.ntmps27
      go_wp2_with fail
      go_loopw [19] (fun i w' => ∃ m : Nat, m ≤ P.length ∧ i = .int .i64 m ∧ Hid (∀ j (hj : j < P.length), j < m → fineR rb P.length P[j]) ∧ Hid (Below w.heap.size w w')) (fun i _ => P.length - (RowKit.intOf i).toNat)
      case atStart => exact ⟨0, by omega, rfl, fun j _ h => by omega, Below.refl _ _⟩
      case round =>
        obtain ⟨m, hm, rfl, HF, HB⟩ := hrel
        by_cases hlt : m < P.length
        · obtain ⟨b, o, c', hv, hle, hbl, hcell⟩ := (HP.out.later HB.out).rd.at (by omega)
          cases hv
          have hc := hcell m (RT.v P[m]) (by rw [List.getElem?_map, List.getElem?_eq_getElem hlt]; rfl)
          have HE := Lib.hid (HP.out.each P[m] (List.getElem_mem hlt)).rd
          have hl6 := (HP.out.each P[m] (List.getElem_mem hlt)).ll
          unfold maxLen at hl6
          have HRM0 := Lib.hid (HR.out P[m] (List.getElem_mem hlt) (by omega))
          have HBAD : Hid (∀ k : Int, (200 < P[m].l.length ∧ k = 200) ∨ (P[m].l.length ≤ 200 ∧ ∃ (q : Nat) (hq : q < P[m].l.length), k = q ∧ rb P[m].l[q] P.length P[m].l.length = false ∧ ∀ x ∈ P[m].l.take q, rb x P.length P[m].l.length = true) → Checked rb P m k false) := fun k hk =>
            .inr ⟨by omega, by omega, .inr ⟨m, hlt, rfl, rfl, fun j hj => HF.out j (by omega) hj, hk⟩⟩
          have HNX : Hid (fineR rb P.length P[m] → ∀ j (hj : j < P.length), j < m + 1 → fineR rb P.length P[j]) := fun h j hj hjm => by
            rcases Nat.lt_or_ge j m with h1 | h1
            · exact HF.out j hj h1
            · have : j = m := by omega
              subst this; exact h
          clear hcell HF
          unfold RT.v at hc HE
          generalize hrr : P[m] = r at *
          clear hrr
          obtain ⟨rl, ra, rc⟩ := r
          simp only at *
          by_cases h200 : 200 < (rl.length : Int)
          · have HV := Lib.hid (HC1.out m 200 false wr (HBAD.out 200 (.inl ⟨by omega, rfl⟩)) HB.out)
            go_wp2
            refine bodyPost_ret (results_tmp3 rfl _ _ _) rfl ?_
            exact HV.out
          · have HRM := Lib.hid (HRM0.out (by omega))
            clear HRM0
            go_wp2_with fail
            go_loopw [30] (fun i w' => ∃ q : Nat, q ≤ rl.length ∧ i = .int .i64 q ∧ Hid (∀ j (hj : j < rl.length), j < q → rb rl[j] P.length rl.length = true) ∧ Hid (Below w.heap.size w w')) (fun i _ => rl.length - (RowKit.intOf i).toNat)
            case atStart => exact ⟨0, by omega, rfl, fun j _ h => by omega, HB⟩
            case round =>
              obtain ⟨q, hq, rfl, HG, HB2⟩ := hrel
              by_cases hlt2 : q < rl.length
              · obtain ⟨b2, o2, hra, hle2, -, hb2, hcell2⟩ := (HE.out.later HB2.out).atN (by omega) (by decide)
                subst hra
                have d0 := hcell2 (q * 3) _ (by simpa using fm_get stcells_len (List.getElem?_eq_getElem hlt2) 0 _ rfl)
                have d1 := hcell2 (q * 3 + 1) _ (fm_get stcells_len (List.getElem?_eq_getElem hlt2) 1 _ rfl)
                have d2 := hcell2 (q * 3 + 2) _ (fm_get stcells_len (List.getElem?_eq_getElem hlt2) 2 _ rfl)
                rw [← Nat.add_assoc] at d1 d2
                have HRX := Lib.hid (HRM.out rl[q] (List.getElem_mem hlt2))
                have HBX : Hid (rb rl[q] P.length rl.length = false → Checked rb P m q false) := fun h => HBAD.out q (.inr ⟨by omega, q, hlt2, rfl, h, fun x hx => by obtain ⟨j, hj, rfl⟩ := List.mem_iff_getElem.1 hx; rw [List.getElem_take]; rw [List.length_take] at hj; exact HG.out j (by omega) (by omega)⟩)
                have HGX : Hid (rb rl[q] P.length rl.length = true → ∀ j (hj : j < rl.length), j < q + 1 → rb rl[j] P.length rl.length = true) := fun h j hj hjq => by
                  rcases Nat.lt_or_ge j q with h1 | h1
                  · exact HG.out j hj h1
                  · have : j = q := by omega
                    subst this; exact h
                clear hcell2 HG
                generalize rl[q] = x at *
                have hsz := HB2.out.size
                have HBA : Hid (Below w.heap.size w (wr.alloc (.cells #[.int .i64 x.k, .int .i64 x.n, .string x.s] 82))) := HB2.out.alloc hsz _
                have HXA : Hid ((wr.alloc (.cells #[.int .i64 x.k, .int .i64 x.n, .string x.s] 82)).heap[wr.heap.size]? = some (.cells #[.int .i64 x.k, .int .i64 x.n, .string x.s] 82 (0, 0))) := heap_alloc_new _ _
                go_upto_region 11 with fail
                generalize wr.alloc (.cells #[.int .i64 x.k, .int .i64 x.n, .string x.s] 82) = wa at *
                clear d0 d1 d2
                have y0 := cellAt HXA.out 0 rfl
                have y1 := cellAt HXA.out 1 rfl
                have y2 := cellAt HXA.out 2 rfl
                have HRW := Lib.hid (HRX.out wa)
                unfold ST.val at HRW
                go_wp2_with fail
                refine HRW.out.mono ?_
                rintro e w4 ⟨rfl, hb4⟩
                have HB4 := Lib.hid (HBA.out.trans (hb4.mono HBA.out.size))
                clear hb4 y0 y1 y2 HRW HRX
                cases hbx : rb x P.length rl.length with
                | false =>
                  have HV := Lib.hid (HC1.out m q false w4 (HBX.out hbx) HB4.out)
                  go_wp2
                  refine bodyPost_ret (results_tmp3 rfl _ _ _) rfl ?_
                  exact HV.out
                | true =>
                  have HGN := Lib.hid (HGX.out hbx)
                  go_wp2
                  go_roundw
                  case rel => exact ⟨q + 1, by omega, by go_num, HGN, HB4⟩
                  case measure => simp [RowKit.intOf]; omega
              · obtain rfl : q = rl.length := by omega
                have HFN := Lib.hid (HNX.out ⟨by show rl.length ≤ 200; omega, fun x hx => by obtain ⟨j, hj, rfl⟩ := List.mem_iff_getElem.1 hx; exact HG.out j hj hj⟩)
                go_wp2
                go_roundw
                case rel => exact ⟨m + 1, by omega, by go_num, HFN, HB2⟩
                case measure => simp [RowKit.intOf]; omega
        · obtain rfl : m = P.length := by omega
          have HV := Lib.hid (HC1.out 0 0 true wr (.inr ⟨by omega, by omega, .inl ⟨fun r hr => by obtain ⟨j, hj, rfl⟩ := List.mem_iff_getElem.1 hr; exact HF.out j hj hj, rfl, rfl, rfl⟩⟩) HB.out)
          go_wp2
          refine bodyPost_ret (results_tmp3 rfl _ _ _) rfl ?_
          exact HV.out
theorem bad_fine {P : List RT} {m : Nat} (hm : m < P.length) {k : Int} (hk : (200 < P[m].l.length ∧ k = 200) ∨ (P[m].l.length ≤ 200 ∧ ∃ (q : Nat) (hq : q < P[m].l.length), k = q ∧ rightB P[m].l[q] P.length P[m].l.length = false ∧ ∀ x ∈ P[m].l.take q, rightB x P.length P[m].l.length = true)) : ¬ fineR rightB P.length P[m] := by
  intro hfi
  rcases hk with ⟨h1, _⟩ | ⟨_, q, hq, _, h1, _⟩
  · have := hfi.1; omega
  · have := hfi.2 _ (List.getElem_mem hq)
    rw [this] at h1; cases h1
theorem bad_same {l l2 : List ST} {n : Nat} {k k2 : Int} (e : l = l2) (hk : (200 < l.length ∧ k = 200) ∨ (l.length ≤ 200 ∧ ∃ (q : Nat) (hq : q < l.length), k = q ∧ rightB l[q] n l.length = false ∧ ∀ x ∈ l.take q, rightB x n l.length = true))
    (hk2 : (200 < l2.length ∧ k2 = 200) ∨ (l2.length ≤ 200 ∧ ∃ (q : Nat) (hq : q < l2.length), k2 = q ∧ rightB l2[q] n l2.length = false ∧ ∀ x ∈ l2.take q, rightB x n l2.length = true)) : k = k2 := by
  subst e
  rcases hk with ⟨h1, rfl⟩ | ⟨h0, q, hq, rfl, h1, h2⟩
  · rcases hk2 with ⟨_, rfl⟩ | ⟨h3, _⟩
    · rfl
    · omega
  · rcases hk2 with ⟨h3, _⟩ | ⟨_, q2, hq2, rfl, h3, h4⟩
    · omega
    · rcases Nat.lt_trichotomy q q2 with h | h | h
      · have := h4 _ (List.mem_iff_getElem.2 ⟨q, by rw [List.length_take]; omega, rfl⟩); rw [List.getElem_take, h1] at this; cases this
      · rw [h]
      · have := h2 _ (List.mem_iff_getElem.2 ⟨q2, by rw [List.length_take]; omega, rfl⟩); rw [List.getElem_take, h3] at this; cases this
theorem checked_same {P Q : List RT} {i k i2 k2 : Int} {ok ok2 : Bool} (h : Checked rightB P i k ok) (h2 : Checked rightB Q i2 k2 ok2) (e : P.map RT.l = Q.map RT.l) : i = i2 ∧ k = k2 ∧ ok = ok2 := by
  have hl := map_l_len e
  have hf : ∀ j (h1 : j < P.length) (h3 : j < Q.length), fineR rightB P.length P[j] ↔ fineR rightB Q.length Q[j] := fun j h1 h3 => by
    unfold fineR
    rw [map_l_eq e h1 h3, hl]
  rcases h with ⟨h0, rfl, rfl, rfl⟩ | ⟨ha, hb, h⟩
  · rcases h2 with ⟨h3, rfl, rfl, rfl⟩ | ⟨ha2, hb2, h2⟩
    · exact ⟨rfl, rfl, rfl⟩
    · clear h2; exfalso; omega
  · rcases h2 with ⟨h3, rfl, rfl, rfl⟩ | ⟨ha2, hb2, h2⟩
    · clear h; exfalso; omega
    · rcases h with ⟨hall, rfl, rfl, rfl⟩ | ⟨m, hm, rfl, rfl, hpre, hk⟩
      · rcases h2 with ⟨hall2, rfl, rfl, rfl⟩ | ⟨m2, hm2, rfl, rfl, hpre2, hk2⟩
        · exact ⟨rfl, rfl, rfl⟩
        · exact absurd ((hf m2 (by omega) hm2).1 (hall _ (List.getElem_mem _))) (bad_fine hm2 hk2)
      · rcases h2 with ⟨hall2, rfl, rfl, rfl⟩ | ⟨m2, hm2, rfl, rfl, hpre2, hk2⟩
        · exact absurd ((hf m hm (by omega)).2 (hall2 _ (List.getElem_mem _))) (bad_fine hm hk)
        · rcases Nat.lt_trichotomy m m2 with h | h | h
          · exact absurd ((hf m hm (by omega)).2 (hpre2 m h)) (bad_fine hm hk)
          · subst h
            refine ⟨rfl, ?_, rfl⟩
            rw [← hl] at hk2
            exact bad_same (map_l_eq e hm hm2) hk hk2
          · exact absurd ((hf m2 (by omega) hm2).1 (hpre m2 h)) (bad_fine hm2 hk2)
def textL (L : List (List ST)) : ByteArray := if RightL L then ⟨(lpT L).toArray⟩ else ⟨#[]⟩
set_option maxRecDepth 100000 in
set_option maxHeartbeats 2000000 in
theorem ptext_u (a : Option Addr) (c : Nat) (P : List RT) (w : World) (h : PrgU w (.slice a P.length c) P) (hw : Words w) (ht : PTab w) :
    Calls Tryz.prog 30 #[.slice a P.length c] w fun e w' => e = .returned (.string (textL (P.map RT.l))) ∧ Below w.heap.size w w' := by
  by_cases hr : RightP P
  · have e : textL (P.map RT.l) = lpB P := by unfold textL; rw [if_pos ((rightP_iff P).1 hr)]; rfl
    rw [e]
    exact ptext_right a c P w h hr hw ht
  · have e : textL (P.map RT.l) = ⟨#[]⟩ := by unfold textL; rw [if_neg (fun hh => hr ((rightP_iff P).2 hh))]
    rw [e]
    have HC : Hid (Calls Tryz.prog 27 #[.slice a P.length c] w fun e w' => (∃ i k, e = .returned (.tuple #[.int .i64 i, .int .i64 k, .bool false])) ∧ Below w.heap.size w w') := by
      rw [Hid]
      refine (check_u rightB a c P w h (fun r h2 h20 h200 x hx W => right_any x _ _ (by omega) (by omega) W)).mono ?_
      rintro e w' ⟨i, k, ok, rfl, hch, hb⟩
      cases ok with
      | true => exact absurd ((checked_iff hch).1 rfl) hr
      | false => exact ⟨⟨i, k, rfl⟩, hb⟩
    clear h hw ht hr e
    go_enter Tryz.func30, Tryz.ntmps30
    go_wp2_with fail
    refine HC.out.mono ?_
    rintro e w2 ⟨⟨i, k, rfl⟩, hb2⟩
    have HB2 := Lib.hid hb2
    clear hb2 HC
    go_wp2
    go_ret
    exact ⟨rfl, HB2.out⟩
def ParsedPost (w : World) (L : List (List ST)) (s : ByteArray) (e : Ending) (w' : World) : Prop :=
  ∃ (P : List RT) (a : Option Addr) (c : Nat) (ok : Bool), e = .returned (.tuple #[.slice a P.length c, .bool ok]) ∧ PrgU w' (.slice a P.length c) P ∧ ((TextIs L s ∧ ok = true ∧ P.map RT.l = L) ∨ (¬ TextIs L s ∧ ok = false ∧ P = [])) ∧ Below w.heap.size w w'
theorem PrgU.none (w : World) : PrgU w (.slice none 0 0) [] := ⟨Reads.nil _ _, by simp, Nat.zero_le _, by simp⟩
theorem textIs_iff (L : List (List ST)) (s : ByteArray) (h : RightL L) : TextIs L s ↔ textL L = s := by
  unfold TextIs textL
  rw [if_pos h]
  constructor
  · rintro ⟨_, e⟩; rw [e, ba_data]
  · intro e; exact ⟨h, by rw [← e]⟩
theorem ParsedPost.no {w w' : World} {L : List (List ST)} {s : ByteArray} (h : ¬ TextIs L s) (hb : Below w.heap.size w w') : ParsedPost w L s (.returned (.tuple #[.slice none 0 0, .bool false])) w' := ⟨[], none, 0, false, rfl, PrgU.none w', .inr ⟨h, rfl, rfl⟩, hb⟩
theorem ParsedPost.yes {w w' : World} {L : List (List ST)} {s : ByteArray} {P : List RT} {a : Option Addr} {c : Nat} (h : TextIs L s) (hP : PrgU w' (.slice a P.length c) P) (he : P.map RT.l = L) (hb : Below w.heap.size w w') : ParsedPost w L s (.returned (.tuple #[.slice a P.length c, .bool true])) w' := ⟨P, a, c, true, rfl, hP, .inl ⟨h, rfl, he⟩, hb⟩
set_option maxRecDepth 100000 in
set_option maxHeartbeats 4000000 in
theorem pparse_any (s : ByteArray) (hs : Fine s) (w : World) (hw : PW w) :
    Calls Tryz.prog 32 #[.string s] w (ParsedPost w (cutP stepP s) s) := by
  have HC := Lib.hid (pcut_any s hs w hw)
  have HW := Lib.hid hw
  generalize cutP stepP s = L at *
  have HNO : Hid (∀ w', ¬ TextIs L s → Below w.heap.size w w' → ParsedPost w L s (.returned (.tuple #[.slice none 0 0, .bool false])) w') := fun w' h hb => ParsedPost.no h hb
  have HYES : Hid (∀ (P : List RT) (a : Option Addr) (c : Nat) w', TextIs L s → PrgU w' (.slice a P.length c) P → P.map RT.l = L → Below w.heap.size w w' → ParsedPost w L s (.returned (.tuple #[.slice a P.length c, .bool true])) w') := fun P a c w' h hP he hb => ParsedPost.yes h hP he hb
  generalize ParsedPost w L s = Q at *
  clear hs hw
  go_enter Tryz.func32, Tryz.ntmps32
  go_wp2_with fail
  refine HC.out.mono ?_
  rintro e w1 ⟨P, a, c, rfl, hP, hPL, hb1⟩
  have HP := Lib.hid hP
  have HL := Lib.hid hPL
  have HB := Lib.hid hb1
  have hlen := hP.ll
  unfold maxLen at hlen
  clear hP hPL hb1 HC
  go_wp2_with fail
  refine (check_u rightB a c P w1 HP.out (fun r h2 h20 h200 x hx W => right_any x _ _ (by omega) (by omega) W)).mono ?_
  rintro e w2 ⟨i, k, ok, rfl, hch, hb2⟩
  have HR := Lib.hid (checked_iff hch)
  have HP2 := Lib.hid (HP.out.later hb2)
  have HB2 := Lib.hid (HB.out.trans (hb2.mono HB.out.size))
  clear hch hb2 HP HB
  cases ok with
  | false =>
    have HN : Hid (¬ TextIs L s) := fun h => by
      have h1 := h.1
      rw [← HL.out] at h1
      have := HR.out.2 ((rightP_iff P).2 h1)
      cases this
    have HV := Lib.hid (HNO.out w2 HN.out HB2.out)
    clear HR HN HNO HYES
    go_wp2
    exact HV.out
  | true =>
    have HRL : Hid (RightL L) := by rw [Hid, ← HL.out]; exact (rightP_iff P).1 (HR.out.1 rfl)
    clear HR
    go_wp2_with fail
    refine (ptext_u a c P w2 HP2.out (HW.out.later HB2.out).words (HW.out.later HB2.out).tabs.pow).mono ?_
    rintro e w3 ⟨rfl, hb3⟩
    have HP3 := Lib.hid (HP2.out.later hb3)
    have HB3 := Lib.hid (HB2.out.trans (hb3.mono HB2.out.size))
    have HTI := Lib.hid (textIs_iff L s HRL.out)
    rw [HL.out]
    clear hb3 HP2 HB2
    generalize textL L = tx at *
    by_cases hx : tx = s
    · have HV := Lib.hid (HYES.out P a c w3 (HTI.out.2 hx) HP3.out HL.out HB3.out)
      subst hx
      clear HTI HNO HYES
      go_wp2
      exact HV.out
    · have HV := Lib.hid (HNO.out w3 (fun h => hx (HTI.out.1 h)) HB3.out)
      have hx1 := (str_ne hx).1
      have hx2 := (str_ne hx).2
      clear hx HTI HNO HYES
      go_wp2
      exact HV.out
theorem ixIn_no (s : ByteArray) : ∀ (l : List ByteArray) (k : Nat), (∀ x ∈ l, ¬ x = s) → ixIn s l k = -1
  | [], _, _ => rfl
  | x :: l, k, h => by
    unfold ixIn
    rw [if_neg (fun e => h x (by simp) e.symm)]
    exact ixIn_no s l (k + 1) (fun y hy => h y (List.mem_cons_of_mem _ hy))
theorem words_tail : wordsL.tail = (List.range 12).map (fun i => wordsL.getD (i + 1) ⟨#[]⟩) := by decide +kernel
theorem ix_no (s : ByteArray) (h : ∀ j : Nat, 1 ≤ j → j < 13 → ¬ wordsL.getD j ⟨#[]⟩ = s) : ixIn s wordsL.tail 1 = -1 := by
  refine ixIn_no s _ 1 (fun x hx => ?_)
  rw [words_tail] at hx
  obtain ⟨i, hi, rfl⟩ := List.mem_map.1 hx
  have := List.mem_range.1 hi
  exact h (i + 1) (by omega) (by omega)
theorem fieldI_num (k : Nat) : (k : Int) ∈ numL ↔ fieldI k = 1 := by
  unfold fieldI numL
  simp only [List.mem_cons, List.not_mem_nil, or_false]
  split
  · simp; omega
  · split
    · simp; omega
    · simp; omega
theorem fieldI_nam (k : Nat) : (k : Int) ∈ namL ↔ fieldI k = 2 := by
  unfold fieldI namL
  simp only [List.mem_cons, List.not_mem_nil, or_false]
  split
  · simp; omega
  · split
    · simp; omega
    · simp; omega
theorem fieldI_cases (k : Nat) : fieldI k = 0 ∨ fieldI k = 1 ∨ fieldI k = 2 := by
  unfold fieldI
  split
  · exact .inr (.inl rfl)
  · split
    · exact .inr (.inr rfl)
    · exact .inl rfl
theorem headR_len (s : ByteArray) (m : Nat) (hm : m ≤ s.size) (h : ∀ c ∈ s.data.toList.take m, c ≠ 32) (h2 : m = s.size ∨ s.data.toList[m]? = some 32) : headR s.data.toList = s.data.toList.take m := by
  unfold headR
  conv => lhs; rw [← List.take_append_drop m s.data.toList]
  have h1 : (32 : UInt8) ∉ s.data.toList.take m := fun hc => h 32 hc rfl
  rcases h2 with h2 | h2
  · rw [List.drop_eq_nil_of_le (by rw [h2, Lib.size_eq]; exact Nat.le_refl _), List.append_nil]
    exact takeWhile_none _ h1
  · obtain ⟨hl, he⟩ := List.getElem?_eq_some_iff.1 h2
    rw [List.drop_eq_getElem_cons hl, he]
    exact takeWhile_hit _ _ h1
theorem stepR_hit (s : ByteArray) (k : Nat) (hk : 1 ≤ k ∧ k < 13) (h : wordsL.getD k ⟨#[]⟩ = ⟨(headR s.data.toList).toArray⟩) :
    stepR s = ⟨k, if fieldI k = 1 then (numberR (tailR s.data.toList)).1 else 0, if fieldI k = 2 ∧ 2 ≤ (tailR s.data.toList).length then ⟨(unhexR (midR (tailR s.data.toList))).1.toArray⟩ else ⟨#[]⟩⟩ := by
  have hix : ixIn ⟨(headR s.data.toList).toArray⟩ wordsL.tail 1 = (k : Int) := by rw [← h]; exact ix_word1 ⟨k, hk.2⟩ (by simp only; omega)
  unfold stepR
  rw [hix, if_neg (by omega)]
  simp only [fieldI_num, fieldI_nam]
theorem stepR_miss (s : ByteArray) (h : ∀ j : Nat, 1 ≤ j → j < 13 → ¬ wordsL.getD j ⟨#[]⟩ = ⟨(headR s.data.toList).toArray⟩) : stepR s = ⟨0, 0, ⟨#[]⟩⟩ := by
  unfold stepR
  rw [ix_no _ h, if_pos rfl]
end Go.Proofs.YtpijpeocdlnhiaaGreatDoor
