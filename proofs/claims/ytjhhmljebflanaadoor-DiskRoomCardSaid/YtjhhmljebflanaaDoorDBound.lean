/- What an operation does to a disk, bounded; and the same operation on both disks. No program in sight. -/
import Derived.Test.YtjhhmljebflanaaDoorDSame
namespace Go.Proofs.YtjhhmljebflanaaDoor
set_option linter.unusedVariables false
set_option linter.unusedSimpArgs false
open Go.RowKit

theorem rel_act {D F : DS} (h : Rel D F) {a : AC} {D' : DS} {code : Int} {bs : List UInt8} (ha : ActD D a D' code bs) : code = (actF F a).2.1 ∧ bs = (actF F a).2.2 ∧ Rel D' (actF F a).1 := by
  unfold ActD at ha
  unfold actF
  by_cases h1 : a.k = 1
  · rw [if_pos h1] at ha ⊢
    obtain ⟨rfl, rfl, rfl⟩ := ha
    have := rel_create h a.name a.to a.b
    exact ⟨this.1, rfl, this.2⟩
  rw [if_neg h1] at ha ⊢
  by_cases h2 : a.k = 2
  · rw [if_pos h2] at ha ⊢
    obtain ⟨rfl, rfl, rfl⟩ := ha
    have := rel_append h a.name a.to a.b
    exact ⟨this.1, rfl, this.2⟩
  rw [if_neg h2] at ha ⊢
  by_cases h3 : a.k = 3
  · rw [if_pos h3] at ha ⊢
    obtain ⟨rfl, rfl, rfl⟩ := ha
    have := rel_sync h a.name a.to a.b
    exact ⟨this.1, rfl, this.2⟩
  rw [if_neg h3] at ha ⊢
  by_cases h4 : a.k = 4
  · rw [if_pos h4] at ha ⊢
    obtain ⟨rfl, rfl, rfl⟩ := ha
    have := rel_rename h a.name a.to a.b
    exact ⟨this.1, rfl, this.2⟩
  rw [if_neg h4] at ha ⊢
  by_cases h5 : a.k = 5
  · rw [if_pos h5] at ha ⊢
    obtain ⟨rfl, rfl, rfl⟩ := ha
    have := rel_remove h a.name a.to a.b
    exact ⟨this.1, rfl, this.2⟩
  rw [if_neg h5] at ha ⊢
  by_cases h6 : a.k = 6
  · rw [if_pos h6] at ha ⊢
    obtain ⟨rfl, rfl, rfl⟩ := ha
    exact ⟨rfl, rfl, rel_arm h _⟩
  rw [if_neg h6] at ha ⊢
  by_cases h7 : a.k = 7
  · rw [if_pos h7] at ha ⊢
    obtain ⟨⟨ss, ⟨hs1, hs2⟩, rfl⟩, rfl, rfl⟩ := ha
    exact ⟨rfl, rfl, rel_crash h hs1 hs2 a.keep⟩
  rw [if_neg h7] at ha ⊢
  obtain ⟨rfl, rfl, rfl⟩ := ha
  rw [rel_read h]
  exact ⟨rfl, rfl, h⟩

/-! Bounds -/
theorem sumD_cons (f : DF) (l : List DF) : sumD (f :: l) = f.b.length + sumD l := rfl
theorem sum_setD {l : List DF} (hn : (l.map DF.name).Nodup) {n : ByteArray} {f : DF} (hf : findD l n = some f) (b : List UInt8) (d : Nat) : sumD (setD l n b d) + f.b.length = sumD l + b.length := by
  induction l with
  | nil => cases hf
  | cons a l ih =>
    rw [List.map_cons, List.nodup_cons] at hn
    rw [findD] at hf
    rw [setD]
    by_cases ha : a.name = n
    · rw [if_pos ha] at hf
      cases hf
      rw [if_pos ha, sumD_cons, sumD_cons]
      have hs : setD l n b d = l := by
        clear ih
        have hnot : n ∉ l.map DF.name := ha ▸ hn.1
        clear hn
        induction l with
        | nil => rfl
        | cons c l ih2 =>
          rw [List.map_cons, List.mem_cons, not_or] at hnot
          rw [setD, if_neg (fun e => hnot.1 e.symm), ih2 hnot.2]
      rw [hs]
      show b.length + sumD l + f.b.length = f.b.length + sumD l + b.length
      omega
    · rw [if_neg ha] at hf
      rw [if_neg ha, sumD_cons, sumD_cons]
      have := ih hn.2 hf
      omega
theorem sum_dropD (l : List DF) (n : ByteArray) : sumD (dropD l n) ≤ sumD l := by
  induction l with
  | nil => exact Nat.le_refl _
  | cons a l ih =>
    rw [dropD]
    split
    · rw [sumD_cons]; omega
    · rw [sumD_cons, sumD_cons]; omega
theorem sum_dropD_hit {l : List DF} {n : ByteArray} {f : DF} (hf : findD l n = some f) : sumD (dropD l n) + f.b.length ≤ sumD l := by
  induction l with
  | nil => cases hf
  | cons a l ih =>
    rw [findD] at hf
    rw [dropD]
    by_cases ha : a.name = n
    · rw [if_pos ha] at hf ⊢
      cases hf
      have := sum_dropD l n
      rw [sumD_cons]; omega
    · rw [if_neg ha] at hf ⊢
      have := ih hf
      rw [sumD_cons, sumD_cons]; omega
theorem len_setD (l : List DF) (n : ByteArray) (b : List UInt8) (d : Nat) : (setD l n b d).length = l.length := by
  have := congrArg List.length (setD_names l n b d)
  simpa using this
theorem len_dropD (l : List DF) (n : ByteArray) : (dropD l n).length ≤ l.length := (dropD_sub l n).length_le

/-- A disk with few bytes. -/
structure Bnd (D : DS) (s n : Nat) : Prop where
  sum : sumD D.files ≤ s
  len : D.files.length ≤ n
  nm : ∀ f ∈ D.files, f.name.size ≤ 300
  nd : (D.files.map DF.name).Nodup
  plan : 0 ≤ D.plan ∧ D.plan ≤ 9223372036854775807

theorem nm_of_names {l l' : List DF} (h : l'.map DF.name = l.map DF.name) (hl : ∀ f ∈ l, f.name.size ≤ 300) : ∀ f ∈ l', f.name.size ≤ 300 := fun f hf => by
  have : f.name ∈ l.map DF.name := by rw [← h]; exact List.mem_map.2 ⟨f, hf, rfl⟩
  obtain ⟨g, hg, he⟩ := List.mem_map.1 this
  rw [← he]; exact hl g hg
theorem Bnd.more {D : DS} {s n s' n' : Nat} (h : Bnd D s n) (hs : s ≤ s') (hn : n ≤ n') : Bnd D s' n' := ⟨Nat.le_trans h.sum hs, Nat.le_trans h.len hn, h.nm, h.nd, h.plan⟩
/-- How a change begins keeps the bounds. -/
theorem Bnd.begin {D : DS} {s n : Nat} (h : Bnd D s n) (ns : List ByteArray) (fr : Bool) : Bnd (beginD D ns fr).1 s n ∧ (beginD D ns fr).1.files = D.files := by
  unfold beginD
  split
  · exact ⟨h, rfl⟩
  · split
    · exact ⟨⟨h.sum, h.len, h.nm, h.nd, by show (0 : Int) ≤ 0 ∧ (0 : Int) ≤ 9223372036854775807; omega⟩, rfl⟩
    · have := h.plan
      exact ⟨⟨h.sum, h.len, h.nm, h.nd, by show 0 ≤ max (D.plan - 1) 0 ∧ max (D.plan - 1) 0 ≤ 9223372036854775807; omega⟩, rfl⟩
theorem begin_find {D D1 : DS} {n : ByteArray} {ns : List ByteArray} {fr : Bool} (h : beginD D (n :: ns) fr = (D1, none)) : (findD D1.files n).isSome = !fr := by
  have := beginD_none h
  obtain ⟨h1, h2, -⟩ := this
  rw [h1]; exact h2

theorem bnd_create {D : DS} {s n : Nat} (h : Bnd D s n) (nm : ByteArray) (hn : nm.size ≤ 300) : Bnd (createD D nm).1 s (n + 1) := by
  have hb := h.begin [nm] true
  unfold createD
  rcases hq : beginD D [nm] true with ⟨D1, o⟩
  rw [hq] at hb
  cases o with
  | some c => exact hb.1.more (Nat.le_refl _) (by omega)
  | none =>
    have hf := begin_find hq
    have hb1 := hb.1
    refine ⟨?_, ?_, ?_, ?_, hb1.plan⟩
    · show sumD (⟨nm, [], 0⟩ :: D1.files) ≤ s
      rw [sumD_cons]; have := hb1.sum; simpa using this
    · show (⟨nm, [], 0⟩ :: D1.files : List DF).length ≤ n + 1
      have := hb1.len; simpa using this
    · intro f hf
      rcases List.mem_cons.1 hf with rfl | hf
      · exact hn
      · exact hb1.nm f hf
    · show ((⟨nm, [], 0⟩ :: D1.files : List DF).map DF.name).Nodup
      rw [List.map_cons, List.nodup_cons]
      refine ⟨findD_none.1 ?_, hb1.nd⟩
      simpa using hf
theorem bnd_set {D : DS} {s n t : Nat} (h : Bnd D s n) {nm : ByteArray} {f : DF} (hf : findD D.files nm = some f) (b : List UInt8) (d : Nat) (hb : b.length ≤ f.b.length + t) : Bnd { D with files := setD D.files nm b d } (s + t) n := by
  have h1 := sum_setD h.nd hf b d
  have h2 := h.sum
  exact ⟨by show sumD (setD D.files nm b d) ≤ s + t; omega, by show (setD _ _ _ _).length ≤ n; rw [len_setD]; exact h.len, nm_of_names (setD_names _ _ _ _) h.nm, by show ((setD _ _ _ _).map DF.name).Nodup; rw [setD_names]; exact h.nd, h.plan⟩
theorem bnd_append {D : DS} {s n : Nat} (h : Bnd D s n) (nm : ByteArray) (b : List UInt8) : Bnd (appendD D nm b).1 (s + b.length) n := by
  have hb := h.begin [nm] false
  unfold appendD
  rcases hq : beginD D [nm] false with ⟨D1, o⟩
  rw [hq] at hb
  cases o with
  | some c => exact hb.1.more (by omega) (Nat.le_refl _)
  | none =>
    simp only
    split
    · exact hb.1.more (by omega) (Nat.le_refl _)
    · split
      · rename_i f hf
        exact bnd_set hb.1 hf _ _ (by rw [List.length_append]; omega)
      · exact hb.1.more (by omega) (Nat.le_refl _)
theorem bnd_sync {D : DS} {s n : Nat} (h : Bnd D s n) (nm : ByteArray) : Bnd (syncD D nm).1 s n := by
  have hb := h.begin [nm] false
  unfold syncD
  rcases hq : beginD D [nm] false with ⟨D1, o⟩
  rw [hq] at hb
  cases o with
  | some c => exact hb.1
  | none =>
    simp only
    split
    · rename_i f hf
      have := bnd_set (t := 0) hb.1 hf f.b f.b.length (by omega)
      simpa using this
    · exact hb.1
theorem bnd_drop {D : DS} {s n : Nat} (h : Bnd D s n) (nm : ByteArray) : Bnd { D with files := dropD D.files nm } s n :=
  ⟨Nat.le_trans (sum_dropD _ _) h.sum, Nat.le_trans (len_dropD _ _) h.len, fun f hf => h.nm f (dropD_mem.1 hf).1, ((dropD_sub _ _).map DF.name).nodup h.nd, h.plan⟩
theorem bnd_remove {D : DS} {s n : Nat} (h : Bnd D s n) (nm : ByteArray) : Bnd (removeD D nm).1 s n := by
  have hb := h.begin [nm] false
  unfold removeD
  rcases hq : beginD D [nm] false with ⟨D1, o⟩
  rw [hq] at hb
  cases o with
  | some c => exact hb.1
  | none => exact bnd_drop hb.1 nm
theorem bnd_rename {D : DS} {s n : Nat} (h : Bnd D s n) (nm to : ByteArray) (ht : to.size ≤ 300) : Bnd (renameD D nm to).1 s (n + 1) := by
  have hb := h.begin [nm, to] false
  unfold renameD
  rcases hq : beginD D [nm, to] false with ⟨D1, o⟩
  rw [hq] at hb
  cases o with
  | some c => exact hb.1.more (Nat.le_refl _) (by omega)
  | none =>
    simp only
    split
    · rename_i f hf
      have h1 := sum_dropD_hit hf
      have h2 := sum_dropD (dropD D1.files nm) to
      have h3 := hb.1.sum
      have h4 := len_dropD (dropD D1.files nm) to
      have h5 := len_dropD D1.files nm
      have h6 := hb.1.len
      refine ⟨?_, ?_, ?_, ?_, hb.1.plan⟩
      · show sumD (⟨to, f.b, f.d⟩ :: dropD (dropD D1.files nm) to) ≤ s
        rw [sumD_cons]
        show f.b.length + _ ≤ s
        simp only at h3
        omega
      · show (⟨to, f.b, f.d⟩ :: dropD (dropD D1.files nm) to : List DF).length ≤ n + 1
        rw [List.length_cons]
        simp only at h6
        omega
      · intro g hg
        rcases List.mem_cons.1 hg with rfl | hg
        · exact ht
        · exact hb.1.nm g (dropD_mem.1 (dropD_mem.1 hg).1).1
      · show ((⟨to, f.b, f.d⟩ :: dropD (dropD D1.files nm) to : List DF).map DF.name).Nodup
        rw [List.map_cons, List.nodup_cons]
        refine ⟨fun hm => ?_, ((dropD_sub _ _).trans (dropD_sub _ _) |>.map DF.name).nodup hb.1.nd⟩
        obtain ⟨g, hg, he⟩ := List.mem_map.1 hm
        exact (dropD_mem.1 hg).2 he
    · exact hb.1.more (Nat.le_refl _) (by omega)
theorem bnd_crash {D : DS} {s n : Nat} (h : Bnd D s n) (ss : List (List UInt8)) (ks : List Int) : ∀ m, Bnd (crashN D ss ks m) s n
  | 0 => ⟨h.sum, h.len, h.nm, h.nd, by show (0 : Int) ≤ 0 ∧ (0 : Int) ≤ 9223372036854775807; omega⟩
  | m + 1 => by
    have ih := bnd_crash h ss ks m
    rw [crashN]
    split
    · unfold crashStep
      split
      · rename_i f hf
        have := bnd_set (t := 0) ih hf (f.b.take (f.d + cutN f ks[m]?)) (f.d + cutN f ks[m]?) (by rw [List.length_take]; omega)
        simpa using this
      · exact ih
    · exact ih

theorem bnd_act {D : DS} {s n : Nat} (h : Bnd D s n) {a : AC} {D' : DS} {code : Int} {bs : List UInt8} (ha : ActD D a D' code bs) (hs : smallA a) (hn : a.n ≤ 9223372036854775807) : Bnd D' (s + a.b.length) (n + 1) ∧ bs.length ≤ s := by
  unfold ActD at ha
  by_cases h1 : a.k = 1
  · rw [if_pos h1] at ha
    obtain ⟨rfl, rfl, rfl⟩ := ha
    exact ⟨(bnd_create h _ hs.1).more (by omega) (by omega), Nat.zero_le _⟩
  rw [if_neg h1] at ha
  by_cases h2 : a.k = 2
  · rw [if_pos h2] at ha
    obtain ⟨rfl, rfl, rfl⟩ := ha
    exact ⟨(bnd_append h _ _).more (by omega) (by omega), Nat.zero_le _⟩
  rw [if_neg h2] at ha
  by_cases h3 : a.k = 3
  · rw [if_pos h3] at ha
    obtain ⟨rfl, rfl, rfl⟩ := ha
    exact ⟨(bnd_sync h _).more (by omega) (by omega), Nat.zero_le _⟩
  rw [if_neg h3] at ha
  by_cases h4 : a.k = 4
  · rw [if_pos h4] at ha
    obtain ⟨rfl, rfl, rfl⟩ := ha
    exact ⟨(bnd_rename h _ _ hs.2.1).more (by omega) (by omega), Nat.zero_le _⟩
  rw [if_neg h4] at ha
  by_cases h5 : a.k = 5
  · rw [if_pos h5] at ha
    obtain ⟨rfl, rfl, rfl⟩ := ha
    exact ⟨(bnd_remove h _).more (by omega) (by omega), Nat.zero_le _⟩
  rw [if_neg h5] at ha
  by_cases h6 : a.k = 6
  · rw [if_pos h6] at ha
    obtain ⟨rfl, rfl, rfl⟩ := ha
    refine ⟨⟨Nat.le_trans h.sum (by omega), Nat.le_trans h.len (by omega), h.nm, h.nd, ?_⟩, Nat.zero_le _⟩
    show 0 ≤ max a.n 0 ∧ max a.n 0 ≤ 9223372036854775807
    omega
  rw [if_neg h6] at ha
  by_cases h7 : a.k = 7
  · rw [if_pos h7] at ha
    obtain ⟨⟨ss, -, rfl⟩, rfl, rfl⟩ := ha
    exact ⟨(bnd_crash h ss _ _).more (by omega) (by omega), Nat.zero_le _⟩
  rw [if_neg h7] at ha
  obtain ⟨rfl, rfl, rfl⟩ := ha
  refine ⟨h.more (by omega) (by omega), ?_⟩
  unfold readD
  split
  · exact Nat.zero_le _
  · split
    · rename_i f hf
      have := len_le_sum (findD_name hf).2
      have := h.sum
      show f.b.length ≤ s
      omega
    · exact Nat.zero_le _
end Go.Proofs.YtjhhmljebflanaaDoor
