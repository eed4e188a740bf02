/- DiskRoom: all files together never have more bytes than there is room. -/
import Derived.Test.YtjhhmljebflanaaDoorDMatches
namespace Go.Proofs.YtjhhmljebflanaaDoor
set_option linter.unusedVariables false
set_option linter.unusedSimpArgs false
open Go.RowKit

theorem begin_room (D : DS) (ns : List ByteArray) (fr : Bool) : (beginD D ns fr).1.room = D.room := by
  unfold beginD
  split
  · rfl
  · split <;> rfl
/-- An operation keeps within the room. -/
theorem act_room {D : DS} {s n : Nat} (h : Bnd D s n) {a : AC} {D' : DS} {code : Int} {bs : List UInt8} (ha : ActD D a D' code bs) (hs : smallA a) (hr : (sumD D.files : Int) ≤ D.room) : (sumD D'.files : Int) ≤ D'.room ∧ D'.room = D.room := by
  have hb : Bnd D (sumD D.files) n := ⟨Nat.le_refl _, h.len, h.nm, h.nd, h.plan⟩
  unfold ActD at ha
  by_cases h1 : a.k = 1
  · rw [if_pos h1] at ha
    obtain ⟨rfl, rfl, rfl⟩ := ha
    have h2 := (bnd_create hb a.name hs.1).sum
    have h3 : (createD D a.name).1.room = D.room := by
      unfold createD
      have := begin_room D [a.name] true
      rcases hq : beginD D [a.name] true with ⟨D1, o⟩
      rw [hq] at this
      cases o <;> exact this
    omega
  rw [if_neg h1] at ha
  by_cases h2 : a.k = 2
  · rw [if_pos h2] at ha
    obtain ⟨rfl, rfl, rfl⟩ := ha
    have hbg := hb.begin [a.name] false
    have hrm := begin_room D [a.name] false
    unfold appendD
    rcases hq : beginD D [a.name] false with ⟨D1, o⟩
    rw [hq] at hbg hrm
    simp only at hrm hbg
    cases o with
    | some c => simp only; have := hbg.1.sum; omega
    | none =>
      simp only
      by_cases hf : D1.room < sumD D1.files + a.b.length
      · rw [if_pos hf]; simp only; have := hbg.1.sum; omega
      · rw [if_neg hf]
        cases hg : findD D1.files a.name with
        | none => simp only; have := hbg.1.sum; omega
        | some f =>
          simp only
          have h9 := sum_setD hbg.1.nd hg (f.b ++ a.b) f.d
          rw [List.length_append] at h9
          omega
  rw [if_neg h2] at ha
  by_cases h3 : a.k = 3
  · rw [if_pos h3] at ha
    obtain ⟨rfl, rfl, rfl⟩ := ha
    have h4 := (bnd_sync hb a.name).sum
    have h5 : (syncD D a.name).1.room = D.room := by
      unfold syncD
      have := begin_room D [a.name] false
      rcases hq : beginD D [a.name] false with ⟨D1, o⟩
      rw [hq] at this
      cases o with
      | some c => exact this
      | none => simp only; split <;> exact this
    omega
  rw [if_neg h3] at ha
  by_cases h4 : a.k = 4
  · rw [if_pos h4] at ha
    obtain ⟨rfl, rfl, rfl⟩ := ha
    have h4 := (bnd_rename hb a.name a.to hs.2.1).sum
    have h5 : (renameD D a.name a.to).1.room = D.room := by
      unfold renameD
      have := begin_room D [a.name, a.to] false
      rcases hq : beginD D [a.name, a.to] false with ⟨D1, o⟩
      rw [hq] at this
      cases o with
      | some c => exact this
      | none => simp only; split <;> exact this
    omega
  rw [if_neg h4] at ha
  by_cases h5 : a.k = 5
  · rw [if_pos h5] at ha
    obtain ⟨rfl, rfl, rfl⟩ := ha
    have h4 := (bnd_remove hb a.name).sum
    have h5 : (removeD D a.name).1.room = D.room := by
      unfold removeD
      have := begin_room D [a.name] false
      rcases hq : beginD D [a.name] false with ⟨D1, o⟩
      rw [hq] at this
      cases o <;> exact this
    omega
  rw [if_neg h5] at ha
  by_cases h6 : a.k = 6
  · rw [if_pos h6] at ha
    obtain ⟨rfl, rfl, rfl⟩ := ha
    exact ⟨hr, rfl⟩
  rw [if_neg h6] at ha
  by_cases h7 : a.k = 7
  · rw [if_pos h7] at ha
    obtain ⟨⟨ss, -, rfl⟩, rfl, rfl⟩ := ha
    have h8 := (bnd_crash hb ss a.keep ss.length).sum
    have h9 := (crashN_head D ss a.keep ss.length).1
    omega
  rw [if_neg h7] at ha
  obtain ⟨rfl, rfl, rfl⟩ := ha
  exact ⟨hr, rfl⟩

/-- The disk of the reference behind the first m operations. -/
def runF (F : DS) (l : List AC) (m : Nat) : DS := (l.take m).foldl (fun F a => (actF F a).1) F
theorem runF_succ (F : DS) {l : List AC} {m : Nat} (h : m < l.length) : runF F l (m + 1) = (actF (runF F l m) l[m]).1 := by
  unfold runF
  rw [List.take_succ_eq_append_getElem h, List.foldl_append]; rfl
theorem act_some {D F : DS} (h : Rel D F) (a : AC) : ∃ D' code bs, ActD D a D' code bs := by
  unfold ActD
  by_cases h1 : a.k = 1
  · simp only [if_pos h1]; exact ⟨_, _, _, rfl, rfl, rfl⟩
  simp only [if_neg h1]
  by_cases h2 : a.k = 2
  · simp only [if_pos h2]; exact ⟨_, _, _, rfl, rfl, rfl⟩
  simp only [if_neg h2]
  by_cases h3 : a.k = 3
  · simp only [if_pos h3]; exact ⟨_, _, _, rfl, rfl, rfl⟩
  simp only [if_neg h3]
  by_cases h4 : a.k = 4
  · simp only [if_pos h4]; exact ⟨_, _, _, rfl, rfl, rfl⟩
  simp only [if_neg h4]
  by_cases h5 : a.k = 5
  · simp only [if_pos h5]; exact ⟨_, _, _, rfl, rfl, rfl⟩
  simp only [if_neg h5]
  by_cases h6 : a.k = 6
  · simp only [if_pos h6]; exact ⟨_, _, _, rfl, rfl, rfl⟩
  simp only [if_neg h6]
  by_cases h7 : a.k = 7
  · simp only [if_pos h7]
    refine ⟨_, _, _, ⟨F.files.map fun f => f.name.toList, ⟨by rw [List.pairwise_map]; exact h.so, fun s => ?_⟩, rfl⟩, rfl, rfl⟩
    constructor
    · intro hm
      obtain ⟨f, hf, he⟩ := List.mem_map.1 hm
      exact List.mem_map.2 ⟨f, (h.mem f).2 hf, by rw [← he, mk_toList]⟩
    · intro hm
      obtain ⟨f, hf, he⟩ := List.mem_map.1 hm
      exact List.mem_map.2 ⟨f, (h.mem f).1 hf, by rw [he, toList_mk]⟩
  simp only [if_neg h7]; exact ⟨_, _, _, rfl, rfl, rfl⟩
theorem run_rel {w : World} {v : Value} {l : List AC} (hA : Acts w v l) (hF : FewP l) (room : Int) : ∀ m, m ≤ l.length → ∃ D, Rel D (runF ⟨room, [], 0, false⟩ l m) ∧ Bnd D (sumA (l.take m)) m
  | 0, _ => ⟨⟨room, [], 0, false⟩, ⟨rfl, rfl, rfl, List.Pairwise.nil, List.Pairwise.nil, fun _ => rfl⟩, ⟨Nat.zero_le _, Nat.le_refl _, fun f hf => (List.not_mem_nil hf).elim, List.Pairwise.nil, by show (0 : Int) ≤ 0 ∧ (0 : Int) ≤ 9223372036854775807; omega⟩⟩
  | m + 1, hm => by
    obtain ⟨D, h1, h2⟩ := run_rel hA hF room m (Nat.le_of_succ_le hm)
    have hlt : m < l.length := hm
    obtain ⟨D', code, bs, h3⟩ := act_some h1 l[m]
    refine ⟨D', ?_, ?_⟩
    · rw [runF_succ _ hlt]; exact (rel_act h1 h3).2.2
    · rw [sumA_succ hlt]
      exact (bnd_act h2 h3 (hF.small _ (List.getElem_mem hlt)) (hA.ea _ (List.getElem_mem hlt)).an).1
end Go.Proofs.YtjhhmljebflanaaDoor
