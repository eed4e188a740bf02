/- DRun -/
import Derived.Test.YtgdmdbdljmlkkaaGreatDoorTz03
import Derived.Test.YtgdmdbdljmlkkaaGreatDoorTz05
import Derived.Shelf.Strings.SlTrimAscii
import Derived.Deep.RegionHeld3
set_option maxRecDepth 100000
set_option linter.unusedVariables false
set_option linter.unusedSimpArgs false
namespace Go.Proofs.YtgdmdbdljmlkkaaGreatDoor
open Go.RowKit
def allowedL : List UInt8 := [97, 98, 99, 100, 101, 102, 103, 104, 105, 106, 107, 108, 109, 110, 111, 112, 113, 114, 115, 116, 117, 118, 119, 120, 121, 122, 48, 49, 50, 51, 52, 53, 54, 55, 56, 57, 45, 46]
def okC (c : UInt8) : Bool := allowedL.contains c
def namedB (n : ByteArray) : Bool := decide (1 ≤ n.size ∧ n.size ≤ 100) && n.data.toList.all okC
theorem indexByte_neg (c : UInt8) : ∀ l : List UInt8, (Lib.indexByte l c = -1 ∧ l.contains c = false) ∨ (0 ≤ Lib.indexByte l c ∧ l.contains c = true)
 | [] => .inl ⟨rfl, rfl⟩
 | b :: l => by
   rw [Lib.indexByte, List.contains_cons]
   by_cases h : b = c
   · subst h; right; simp
   · have h1 : (b == c) = false := by simpa using h
     have h2 : (c == b) = false := by simpa using fun e => h e.symm
     simp only [h1, h2, Bool.false_or, Bool.false_eq_true, if_false]
     rcases indexByte_neg c l with ⟨h3, h4⟩ | ⟨h3, h4⟩
     · left; simp [h3, h4]; simpa using h4
     · right
       have : (Lib.indexByte l c == -1) = false := by simp; omega
       simp only [this, Bool.false_eq_true, if_false]
       exact ⟨by omega, h4⟩
theorem named1_any (c : UInt8) (w : World) :
   Calls Tryz.prog 170 #[.int .u8 c.toNat] w fun e w' => e = .returned (.bool (!okC c)) ∧ w' = w := by
 have HI := Lib.hid (Tryz.strings_IndexByte ⟨allowedL.toArray⟩ c.toNat w)
 have hc : (c.toNat : Int).toNat.toUInt8 = c := by
   rw [Int.toNat_natCast]; exact UInt8.ofNat_toNat
 rw [hc] at HI
 have HN : Hid (decide (Lib.indexByte allowedL c < 0) = !okC c) := by
   unfold okC
   rcases indexByte_neg c allowedL with ⟨h1, h2⟩ | ⟨h1, h2⟩
   · rw [Hid, h1, h2]; rfl
   · rw [Hid, h2]; simp; omega
 clear hc
 go_enter Tryz.func170, Tryz.ntmps170
 go_wp2_with fail
 refine HI.out.mono ?_
 rintro e w1 ⟨rfl, rfl⟩
 go_wp2
 go_ret
 exact ⟨congrArg (fun b => Ending.returned (.bool b)) HN.out, rfl⟩
set_option maxHeartbeats 1000000 in
theorem indexB_any (a : Option Addr) (c : Nat) (l : List UInt8) (w : World) (h : Reads w (.slice a l.length c) l.length 1 (byts l)) (hl : l.length ≤ 100000) :
   Calls Tryz.prog 205 #[.slice a l.length c, .func (.func 170) #[] #[]] w fun e w' => (∃ k : Int, e = .returned (.int .i64 k) ∧ (decide (0 ≤ k) = !l.all okC)) ∧ w' = w := by
 have hlen : l.length ≤ c := by obtain ⟨-, a', c', he, hle, -, -⟩ := h; cases he; exact hle
 have HC : Hid (∀ (j : Nat) (hj : j < l.length), ∃ b o, a = some ⟨b, o, none⟩ ∧ w.cell? ⟨b, o + j, none⟩ = some (.int .u8 l[j].toNat)) := by
   intro j hj
   obtain ⟨b, o, c', hv, -, -, hc⟩ := h.at (by omega)
   cases hv
   refine ⟨b, o, rfl, hc j _ ?_⟩
   rw [byts, List.getElem?_map, List.getElem?_eq_getElem hj]; rfl
 clear h
 go_enter Tryz.func205, Tryz.ntmps205
 go_wp2_with fail
 go_loopw [8] (fun i w' => ∃ m : Nat, m ≤ l.length ∧ i = .int .i64 m ∧ w' = w ∧ Hid (∀ j (hj : j < l.length), j < m → okC l[j] = true)) (fun i _ => l.length - (RowKit.intOf i).toNat)
 case atStart => exact ⟨0, by omega, rfl, rfl, fun j _ h => by omega⟩
 case round =>
   obtain ⟨m, hm, rfl, rfl, HLOW⟩ := hrel
   by_cases hlt : m < l.length
   · obtain ⟨b, o, rfl, hc0⟩ := HC.out m hlt
     have HK := Lib.hid (named1_any l[m] wr)
     go_wp2_with fail
     refine HK.out.mono ?_
     rintro e w1 ⟨rfl, rfl⟩
     by_cases hok : okC l[m] = true
     · rw [hok]
       clear hc0 HK
       go_wp2
       go_roundw
       case rel =>
         refine ⟨m + 1, by omega, by go_num, (by first | rfl | trivial), fun j hj hjm => ?_⟩
         rcases Nat.lt_or_ge j m with h3 | h3
         · exact HLOW.out j hj h3
         · have : j = m := by omega
           subst this; exact hok
       case measure => simp [RowKit.intOf]; omega
     · have hok' : okC l[m] = false := by simpa using hok
       rw [hok']
       clear hc0 HK
       go_wp2
       go_ret
       refine ⟨⟨m, rfl, ?_⟩, rfl⟩
       have : l.all okC = false := by
         rw [List.all_eq_false]
         exact ⟨l[m], List.getElem_mem hlt, hok⟩
       rw [this]; simp
   · obtain rfl : m = l.length := by omega
     go_wp2
     go_ret
     refine ⟨⟨-1, rfl, ?_⟩, rfl⟩
     have : l.all okC = true := by
       rw [List.all_eq_true]
       intro x hx
       obtain ⟨j, hj, rfl⟩ := List.mem_iff_getElem.1 hx
       exact HLOW.out j hj hj
     rw [this]; rfl
theorem containsB_any (a : Option Addr) (c : Nat) (l : List UInt8) (w : World) (h : Reads w (.slice a l.length c) l.length 1 (byts l)) (hl : l.length ≤ 100000) :
   Calls Tryz.prog 169 #[.slice a l.length c, .func (.func 170) #[] #[]] w fun e w' => e = .returned (.bool (!l.all okC)) ∧ w' = w := by
 have HI := Lib.hid (indexB_any a c l w h hl)
 go_enter Tryz.func169, Tryz.ntmps169
 go_wp2_with fail
 refine HI.out.mono ?_
 rintro e w1 ⟨⟨k, rfl, hk⟩, rfl⟩
 have HK := Lib.hid hk
 clear hk
 go_wp2
 go_ret
 exact ⟨congrArg (fun b => Ending.returned (.bool b)) HK.out, rfl⟩
theorem dropWhile_all {α : Type} (p : α → Bool) : ∀ l : List α, (∀ x ∈ l, p x = true) → l.dropWhile p = []
 | [], _ => rfl
 | a :: l, h => by rw [List.dropWhile_cons, if_pos (h a (by simp))]; exact dropWhile_all p l (fun x hx => h x (by simp [hx]))
theorem trimS_all {l cs : List UInt8} (h : l.all (cs.contains ·) = true) : Lib.trimS l cs = [] := by
 unfold Lib.trimS Lib.trimLeftS Lib.trimRightS
 rw [List.all_eq_true] at h
 have e : l.reverse.dropWhile (cs.contains ·) = [] := by
   exact dropWhile_all _ _ (fun x hx => h x (List.mem_reverse.1 hx))
 rw [e]; rfl
theorem size_list (s : ByteArray) : s.data.toList.length = s.size := (Lib.size_eq s).symm
theorem reads_bytes (W : World) (s : ByteArray) (c : Nat) (fr : Nat × Nat) (hc : s.size ≤ c) :
   Reads (W.drew.alloc (.cells (bytesRow s c) 5 fr)) (.slice (some ⟨W.heap.size, 0, none⟩) s.size c) s.size 1 (byts s.data.toList) := by
 refine ⟨by rw [byts_length, size_list]; omega, _, c, rfl, hc, (fun h => by cases h), fun ad had j u hu => ?_⟩
 cases had
 rw [Addr.add_lit, Nat.zero_add]
 have hj : j < s.data.size := by
   have := (List.getElem?_eq_some_iff.1 hu).1
   rw [byts_length, size_list] at this; exact this
 refine cellAt (heap_alloc_new W.drew _) j ?_
 rw [bytesRow_at s c j hj, ← hu, byts, List.getElem?_map, List.getElem?_eq_getElem (by simpa using hj)]
 simp [u8v]
set_option maxHeartbeats 1000000 in
theorem named_any (s : ByteArray) (w : World) :
   Calls Tryz.prog 135 #[.string s] w fun e w' => e = .returned (.bool (namedB s)) ∧ Below w.heap.size w w' := by
 by_cases h1 : 1 ≤ s.size
 · by_cases h2 : s.size ≤ 100
   · have HT := Lib.hid (Any.strings_Trim_laid (ρ := Tryz.lays160_ren) Tryz.lays160 (by kernel_rfl) s ⟨allowedL.toArray⟩ w (by omega) (by decide) (ascii_of_all (by decide)))
     obtain ⟨G, hG⟩ : ∃ G, G = s.data.toList.all okC := ⟨_, rfl⟩
     have HG := Lib.hid hG
     have HN : Hid (namedB s = G) := by
       rw [Hid, namedB, decide_eq_true (show 1 ≤ s.size ∧ s.size ≤ 100 from ⟨h1, h2⟩), Bool.true_and, hG]
     have HTR : Hid (G = true → (⟨(Lib.trimS s.data.toList allowedL).toArray⟩ : ByteArray).toList.isEmpty = true) := by
       intro h
       rw [Lib.toList_data]
       have : Lib.trimS s.data.toList allowedL = [] := trimS_all (by rw [← h, hG]; rfl)
       rw [this]; rfl
     have HTF : Hid (s.data.toList.length = s.size) := size_list s
     generalize (Lib.trimS s.data.toList allowedL) = tt at *
     clear hG
     go_enter Tryz.func135, Tryz.ntmps135
     go_wp2_with fail
     refine HT.out.mono ?_
     rintro e w1 ⟨rfl, hb1⟩
     have HB1 := Lib.hid hb1
     clear hb1 HT
     cases tt with
     | nil =>
       have hcv := run_bytes_of_string (P := Tryz.prog) w1 9 72 5 s Tryz.underlying9 Tryz.underlying72 Tryz.underlying5
       have hge := grownCap_ge w1 s.size 0 5
       have HRB := Lib.hid (reads_bytes w1 s _ ((bytesRow s (grownCap w1 s.size 0 5)).size, (bytesRow s (grownCap w1 s.size 0 5)).size + 1) hge)
       have HBB := Lib.hid (HB1.out.drew.alloc HB1.out.size (.cells (bytesRow s (grownCap w1 s.size 0 5)) 5 ((bytesRow s (grownCap w1 s.size 0 5)).size, (bytesRow s (grownCap w1 s.size 0 5)).size + 1)))
       generalize (w1.drew.alloc (.cells (bytesRow s (grownCap w1 s.size 0 5)) 5 ((bytesRow s (grownCap w1 s.size 0 5)).size, (bytesRow s (grownCap w1 s.size 0 5)).size + 1))) = w2 at *
       generalize grownCap w1 s.size 0 5 = cp at *
       have HCB := Lib.hid (containsB_any (some ⟨w1.heap.size, 0, none⟩) cp s.data.toList w2 (by rw [HTF.out]; exact HRB.out) (by rw [HTF.out]; omega))
       rw [HTF.out, ← HG.out] at HCB
       clear HRB HTR hge
       go_wp2_with fail
       refine HCB.out.mono ?_
       rintro e w3 ⟨rfl, rfl⟩
       go_wp2
       go_ret
       refine ⟨congrArg (fun b => Ending.returned (.bool b)) ?_, HBB.out⟩
       first | (rw [HN.out]; done) | (rw [HN.out]; simp)
     | cons t0 tt =>
       have HF : Hid (G = false) := by
         rw [Hid]; exact Bool.eq_false_iff.2 (fun h => by have := HTR.out h; rw [Lib.toList_data] at this; cases this)
       clear HTR
       go_wp2
       go_ret
       exact ⟨congrArg (fun b => Ending.returned (.bool b)) (HN.out.trans HF.out).symm, HB1.out⟩
   · have HN : Hid (namedB s = false) := by
       rw [Hid, namedB, decide_eq_false (fun h => h2 h.2)]; rfl
     go_enter Tryz.func135, Tryz.ntmps135
     go_wp2
     go_ret
     exact ⟨congrArg (fun b => Ending.returned (.bool b)) HN.out.symm, Below.refl _ _⟩
 · have HN : Hid (namedB s = false) := by
     rw [Hid, namedB, decide_eq_false (fun h => h1 h.1)]; rfl
   go_enter Tryz.func135, Tryz.ntmps135
   go_wp2
   go_ret
   exact ⟨congrArg (fun b => Ending.returned (.bool b)) HN.out.symm, Below.refl _ _⟩
theorem run1_any (s : ByteArray) (w : World) :
   Calls Tryz.prog 134 #[.string s] w fun e w' => e = .returned (.bool (!namedB s)) ∧ Below w.heap.size w w' := by
 have HI := Lib.hid (named_any s w)
 go_enter Tryz.func134, Tryz.ntmps134
 go_wp2_with fail
 refine HI.out.mono ?_
 rintro e w1 ⟨rfl, hb⟩
 have HB := Lib.hid hb
 clear hb HI
 go_wp2
 go_ret
 exact ⟨rfl, HB.out⟩
set_option maxHeartbeats 1000000 in
theorem indexS_any (a : Option Addr) (c : Nat) (l : List ByteArray) (w : World) (h : Reads w (.slice a l.length c) l.length 1 (l.map Value.string)) (hl : l.length ≤ 100000) :
   Calls Tryz.prog 167 #[.slice a l.length c, .func (.func 134) #[] #[]] w fun e w' => (∃ k : Int, e = .returned (.int .i64 k) ∧ (decide (0 ≤ k) = !l.all namedB)) ∧ Below w.heap.size w w' := by
 have hlen : l.length ≤ c := by obtain ⟨-, a', c', he, hle, -, -⟩ := h; cases he; exact hle
 have HC : Hid (∀ (j : Nat) (hj : j < l.length), ∃ b o, a = some ⟨b, o, none⟩ ∧ b < w.heap.size ∧ w.cell? ⟨b, o + j, none⟩ = some (.string l[j])) := by
   intro j hj
   obtain ⟨b, o, c', hv, -, hb, hc⟩ := h.at (by omega)
   cases hv
   refine ⟨b, o, rfl, hb, hc j _ ?_⟩
   rw [List.getElem?_map, List.getElem?_eq_getElem hj]; rfl
 clear h
 go_enter Tryz.func167, Tryz.ntmps167
 go_wp2_with fail
 go_loopw [8] (fun i w' => ∃ m : Nat, m ≤ l.length ∧ i = .int .i64 m ∧ Hid (Below w.heap.size w w') ∧ Hid (∀ j (hj : j < l.length), j < m → namedB l[j] = true)) (fun i _ => l.length - (RowKit.intOf i).toNat)
 case atStart => exact ⟨0, by omega, rfl, Below.refl _ _, fun j _ h => by omega⟩
 case round =>
   obtain ⟨m, hm, rfl, HBE, HLOW⟩ := hrel
   by_cases hlt : m < l.length
   · obtain ⟨b, o, rfl, hbl, hc00⟩ := HC.out m hlt
     have hc0 := (HBE.out.cell (p := ⟨b, o + m, none⟩) hbl).trans hc00
     have HK := Lib.hid (run1_any l[m] wr)
     clear hc00
     go_wp2_with fail
     refine HK.out.mono ?_
     rintro e w1 ⟨rfl, hb1⟩
     have HB1 := Lib.hid (HBE.out.trans (hb1.mono HBE.out.size))
     clear hb1
     by_cases hok : namedB l[m] = true
     · rw [hok]
       clear hc0 HK
       go_wp2
       go_roundw
       case rel =>
         refine ⟨m + 1, by omega, by go_num, HB1, fun j hj hjm => ?_⟩
         rcases Nat.lt_or_ge j m with h3 | h3
         · exact HLOW.out j hj h3
         · have : j = m := by omega
           subst this; exact hok
       case measure => simp [RowKit.intOf]; omega
     · have hok' : namedB l[m] = false := by simpa using hok
       rw [hok']
       clear hc0 HK
       go_wp2
       go_ret
       refine ⟨⟨m, rfl, ?_⟩, HB1.out⟩
       have : l.all namedB = false := by
         rw [List.all_eq_false]
         exact ⟨l[m], List.getElem_mem hlt, hok⟩
       rw [this]; simp
   · obtain rfl : m = l.length := by omega
     go_wp2
     go_ret
     refine ⟨⟨-1, rfl, ?_⟩, HBE.out⟩
     have : l.all namedB = true := by
       rw [List.all_eq_true]
       intro x hx
       obtain ⟨j, hj, rfl⟩ := List.mem_iff_getElem.1 hx
       exact HLOW.out j hj hj
     rw [this]; rfl
theorem containsS_any (a : Option Addr) (c : Nat) (l : List ByteArray) (w : World) (h : Reads w (.slice a l.length c) l.length 1 (l.map Value.string)) (hl : l.length ≤ 100000) :
   Calls Tryz.prog 133 #[.slice a l.length c, .func (.func 134) #[] #[]] w fun e w' => e = .returned (.bool (!l.all namedB)) ∧ Below w.heap.size w w' := by
 have HI := Lib.hid (indexS_any a c l w h hl)
 go_enter Tryz.func133, Tryz.ntmps133
 go_wp2_with fail
 refine HI.out.mono ?_
 rintro e w1 ⟨⟨k, rfl, hk⟩, hb⟩
 have HK := Lib.hid hk
 have HB := Lib.hid hb
 clear hk hb
 go_wp2
 go_ret
 exact ⟨congrArg (fun b => Ending.returned (.bool b)) HK.out, HB.out⟩
def sumD (l : List DF) : Nat := (l.map fun f => f.b.length).sum
def lenAt (w : World) (v : Value) : Nat := match v with
 | .pointer (some a) => match w.cell? a with
   | some (.slice _ n _) => n
   | _ => 0
 | _ => 0
theorem get_of_mem {κ : Type} [DecidableEq κ] {l : List (κ × Value)} (hn : (l.map (·.1)).Nodup) {p : κ × Value} (h : p ∈ l) : get l p.1 = some p.2 := by
 induction l with
 | nil => cases h
 | cons a l ih =>
   rw [List.map_cons, List.nodup_cons] at hn
   rw [get]
   rcases List.mem_cons.1 h with rfl | h
   · rw [if_pos rfl]
   · rw [if_neg (fun e => hn.1 (by rw [← e]; exact List.mem_map.2 ⟨p, h, rfl⟩))]
     exact ih hn.2 h
theorem sum_perm {l m : List Nat} (h : l.Perm m) : l.sum = m.sum := by
 induction h with
 | nil => rfl
 | cons _ _ ih => simp [ih]
 | swap => simp; omega
 | trans _ _ h1 h2 => exact h1.trans h2
theorem FRep.len {w : World} {bf : Nat} {b : List UInt8} {d : Nat} {S : Nat → Prop} (h : FRep w bf b d S) : lenAt w (.pointer (some ⟨bf, 0, none⟩)) = b.length := by
 obtain ⟨a, c, T, h1, -⟩ := h
 have := cellAt h1 0 (v := .slice a b.length c) rfl
 simp only [lenAt, this]
theorem entries_sum {w : World} {D : DS} {S : Nat → Prop} {bx bm : Nat} {col : Nat → Option ByteArray} {pv : ByteArray → Nat} (h : DAt w D S bx bm col pv) {es : List MapEntry} {l : List (ByteArray × Value)}
   (hl : es.map (fun e => (e.key, e.val)) = l.map fun p => (Value.string p.1, p.2)) (hn : (l.map (·.1)).Nodup) (hF : ∀ k, get l k = fmap D.files pv k) :
   (es.map fun e => lenAt w e.val).sum = sumD D.files ∧ ∀ e ∈ es, ∃ n f, findD D.files n = some f ∧ e.key = .string n ∧ e.val = .pointer (some ⟨pv n, 0, none⟩) := by
 have hp : ∀ p ∈ l, ∃ f, findD D.files p.1 = some f ∧ p.2 = .pointer (some ⟨pv p.1, 0, none⟩) := by
   intro p hp
   have h1 := get_of_mem hn hp
   rw [hF] at h1
   unfold fmap at h1
   cases hf : findD D.files p.1 with
   | none => rw [hf] at h1; cases h1
   | some f => rw [hf] at h1; exact ⟨f, rfl, (Option.some.inj h1).symm⟩
 constructor
 · have e1 : (es.map fun e => lenAt w e.val) = l.map fun p => lenAt w p.2 := by
     have := congrArg (List.map fun q : Value × Value => lenAt w q.2) hl
     simpa [List.map_map, Function.comp_def] using this
   have e2 : (l.map fun p => lenAt w p.2) = (l.map (·.1)).map fun n => match findD D.files n with | some f => f.b.length | none => 0 := by
     rw [List.map_map]
     refine List.map_congr_left (fun p hm => ?_)
     obtain ⟨f, hf, hv⟩ := hp p hm
     have hfr := h.fl f (findD_name hf).2
     rw [(findD_name hf).1] at hfr
     simp only [Function.comp, hf, hv, hfr.len]
   have hperm : (l.map (·.1)).Perm (D.files.map DF.name) := by
     rw [List.perm_ext_iff_of_nodup hn h.nd]
     intro k
     have h1 := get_mem l k
     have h2 := findD_none (l := D.files) (n := k)
     have h3 : get l k = none ↔ findD D.files k = none := by rw [hF]; unfold fmap; simp
     rw [h1, h2] at h3
     exact ⟨fun a => Classical.byContradiction (fun b => h3.2 b a), fun a => Classical.byContradiction (fun b => h3.1 b a)⟩
   rw [e1, e2, sum_perm (hperm.map _), List.map_map]
   unfold sumD
   congr 1
   refine List.map_congr_left (fun f hm => ?_)
   simp only [Function.comp, findD_mem h.nd hm]
 · intro e he
   have : (e.key, e.val) ∈ es.map (fun e => (e.key, e.val)) := List.mem_map.2 ⟨e, he, rfl⟩
   rw [hl] at this
   obtain ⟨p, hm, hq⟩ := List.mem_map.1 this
   obtain ⟨f, hf, hv⟩ := hp p hm
   have q1 : Value.string p.1 = e.key := congrArg Prod.fst hq
   have q2 : p.2 = e.val := congrArg Prod.snd hq
   exact ⟨p.1, f, hf, q1.symm, q2.symm.trans hv⟩
set_option maxHeartbeats 1000000 in
theorem used_any (x : Value) (D : DS) (S : Nat → Prop) (w : World) (h : DRep w x D S) (hs : sumD D.files ≤ 1000000000) :
   Calls Tryz.prog 51 #[x] w fun e w' => e = .returned (.int .i64 (sumD D.files)) ∧ Below w.heap.size w w' := by
 obtain ⟨bx, bm, col, pv, rfl, h⟩ := h
 have H := Lib.hid h
 obtain ⟨es, clock, l, hb, hl, hn, hborn, hbn, hF⟩ := h.mp
 have HS := Lib.hid (entries_sum h hl hn hF)
 have HN := Lib.hid hbn
 have HBO := Lib.hid hborn
 have HB := Lib.hid hb
 have hx1 := cellAt h.blk 1 (v := .map (some bm)) rfl
 have hrg := run_range_map (P := Tryz.prog) w 113 _ _ bm es clock Tryz.underlying113 hb
 clear h hl hn hF hbn hborn hb
 go_enter Tryz.func51, Tryz.ntmps51
 go_wp2_with fail
 go_loopw [3] (fun s w' => ∃ (w1 : World) (seen : Array Nat), Hid (Below w.heap.size w w1 ∧ w1.heap = w.heap) ∧ w' = w1.alloc (.mapIter (some bm) clock seen clock) ∧ s = .int .i64 (seenW (lenAt w) es.toList seen : Nat)) (fun _ w' => (leftOf es (w'.iterSeen w.heap.size)).size)
 case atStart => exact ⟨w, #[], ⟨Below.refl _ _, rfl⟩, rfl, by rw [seenW_none]; rfl⟩
 case round =>
   obtain ⟨w1, seen, HA, rfl, rfl⟩ := hrel
   have hsz : w1.heap.size = w.heap.size := by rw [HA.out.2]
   have HB1 : Hid (w1.heap[bm]? = some (.map es clock)) := by rw [Hid, HA.out.2]; exact HB.out
   have law := run_next_map_t (P := Tryz.prog) w1 0 bm clock clock seen es clock HB1.out HBO.out (Nat.le_refl _)
   rw [hsz] at law
   rcases law with ⟨h0, hrun⟩ | ⟨e, he, w2, hal2, hrun⟩
   · have hnx : ∀ ty, (Instr.next (.pointer (some ⟨w.heap.size, 0, none⟩)) false ty).run Tryz.prog (w1.alloc (.mapIter (some bm) clock seen clock)) = _ := fun _ => hrun
     clear HB1
     go_wp2
     go_ret
     rw [seenW_full (lenAt w) seen es.toList (all_seen es seen h0), HS.out.1]
     exact ⟨rfl, HA.out.1.alloc (by rw [HA.out.2]; exact Nat.le_refl _) _⟩
   · have hmem := mem_left he
     obtain ⟨n, f, hf, hkey, hval⟩ := HS.out.2 e hmem.1
     have hfr := H.out.fl f (findD_name hf).2
     rw [(findD_name hf).1] at hfr
     have hlen := hfr.len
     obtain ⟨a, c, T, hfb, -⟩ := hfr
     have hcf := cellAt hfb 0 (v := .slice a f.b.length c) rfl
     have HA2 : Hid (Below w.heap.size w w2 ∧ w2.heap = w.heap) := by
       rcases hal2 with h | h
       · rw [h]; exact HA
       · rw [h]; exact ⟨HA.out.1.drew, HA.out.2⟩
     have hcf1 : w2.cell? ⟨pv n, 0, none⟩ = some (.slice a f.b.length c) := by
       rw [show w2.cell? ⟨pv n, 0, none⟩ = w.cell? ⟨pv n, 0, none⟩ from World.cell?_of_block (by rw [HA2.out.2])]
       exact hcf
     have hpvlt : pv n < w2.heap.size := by
       have := lt_of_heap hfb
       rw [HA2.out.2]; exact this
     have hcf2 : (w2.alloc (.mapIter (some bm) clock (seen.push e.born) clock)).cell? ⟨pv n, 0, none⟩ = some (.slice a f.b.length c) := by
       rw [World.cell?_of_block (Below.heap_alloc _ _ _ hpvlt)]; exact hcf1
     rw [hkey, hval] at hrun
     have hnx : ∀ ty, (Instr.next (.pointer (some ⟨w.heap.size, 0, none⟩)) false ty).run Tryz.prog (w1.alloc (.mapIter (some bm) clock seen clock)) = _ := fun _ => hrun
     have hsz2 : w2.heap.size = w.heap.size := by rw [HA2.out.2]
     have hb2 : w2.heap[bm]? = some (.map es clock) := by rw [HA2.out.2]; exact HB.out
     have hen := run_entry_map (P := Tryz.prog) w2 bm clock seen es clock e hb2 hmem.1 HN.out
     rw [hsz2, hkey, hval] at hen
     have hpush := seenW_push (lenAt w) seen e hmem.2 es.toList HN.out hmem.1
     rw [hval, hlen] at hpush
     have hle := seenW_le (lenAt w) (seen.push e.born) es.toList
     rw [HS.out.1] at hle
     have hw : IntKind.i64.wrap ((seenW (lenAt w) es.toList seen : Nat) + (f.b.length : Int)) = (seenW (lenAt w) es.toList (seen.push e.born) : Nat) := by
       rw [IntWalk.i64_in _ (by omega)]; omega
     have HPU := Lib.hid hpush
     have HLE := Lib.hid hle
     have HSH := Lib.hid (left_shrinks es seen e he)
     have HSZ := Lib.hid hsz
     have HSZ2 := Lib.hid hsz2
     clear hal2 hb2 hcf1 hcf hfb hlen hpush hle hmem hkey hval hf he hsz hsz2 HB1
     go_wp2_with fail
     go_roundw
     case rel => exact ⟨w2, seen.push e.born, HA2, rfl, rfl⟩
     case measure =>
       rw [← HSZ2.out, World.iterSeen_alloc, HSZ2.out, ← HSZ.out, World.iterSeen_alloc]
       exact HSH.out
theorem keyS : KeyOk Tryz.prog 9 ByteArray Value.string := keyString Tryz.underlying9
theorem zeroF (w : World) : (zeroValue 116).run Tryz.prog w = .ok (.pointer none) w := by kernel_rfl
theorem look_f {w : World} {l : List DF} {pv : ByteArray → Nat} {bm : Nat} (h : MapFn w Value.string bm (fmap l pv)) (n : ByteArray) (ok : Bool) :
   (Instr.lookup 113 (.map (some bm)) (.string n) ok).run Tryz.prog w = .ok (if ok then .tuple #[(fmap l pv n).getD (.pointer none), .bool (fmap l pv n).isSome] else (fmap l pv n).getD (.pointer none)) w :=
 run_lookup_fn keyS Tryz.underlying113 (zeroF w) h n ok
theorem Reads.chg {w w' : World} {T : Nat → Prop} {a : Option Addr} {n m c : Nat} {xs : List Value} (h : Reads w (.slice a m c) n 1 xs) (hc : Chg T w w') (hT : ∀ ad, a = some ad → 0 < xs.length → ¬ T ad.block) : Reads w' (.slice a m c) n 1 xs := by
 obtain ⟨hl, ao, c', hv, hle, hnn, hcell⟩ := h
 cases hv
 refine ⟨hl, a, c, rfl, hle, hnn, fun ad had j u hu => ?_⟩
 have h1 := hcell ad had j u hu
 have hblk : (ad.add j).block = ad.block := by unfold Addr.add; split <;> rfl
 have hlt : ad.block < w.heap.size := by
   have := World.block_lt_of_cell? w _ h1
   rwa [hblk] at this
 rw [← h1]
 exact World.cell?_of_block (by rw [hblk]; exact hc.block _ hlt (hT ad had (by have := (List.getElem?_eq_some_iff.1 hu).1; omega)))
def beginD (D : DS) (names : List ByteArray) (fresh : Bool) : DS × Option Int :=
 if D.down then (D, some 10)
 else if D.plan = 1 then ({ D with plan := 0, down := true }, some 10)
 else ({ D with plan := max (D.plan - 1) 0 },
   if names.all namedB then
     match findD D.files (names.headD ByteArray.empty) with
     | some _ => if fresh then some 7 else none
     | none => if fresh then none else some 6
   else some 6)
theorem lookD {w : World} {l : List DF} {pv : ByteArray → Nat} {bm : Nat} (h : MapFn w Value.string bm (fmap l pv)) (n : ByteArray) (p : Value) (ok : Bool) (hp : p = (fmap l pv n).getD (.pointer none)) (hok : ok = (findD l n).isSome) :
   (Instr.lookup 113 (.map (some bm)) (.string n) true).run Tryz.prog w = .ok (.tuple #[p, .bool ok]) w := by
 rw [look_f h n true, hp, hok]
 simp only [if_true]
 unfold fmap
 rw [Option.isSome_map]
set_option maxHeartbeats 2000000 in
theorem run_any (g : Nat) (lb : Array Value) (eg : ∀ args w, (callFunc g args).run Tryz.prog w = .ok (.enter g args) w) (D : DS) (S : Nat → Prop) (bx bm : Nat) (col : Nat → Option ByteArray) (pv : ByteArray → Nat) (w : World) (h : DAt w D S bx bm col pv)
   (hp : 0 ≤ D.plan ∧ D.plan ≤ 9223372036854775807) (a : Option Addr) (c : Nat) (n : ByteArray) (rest : List ByteArray) (hr : Reads w (.slice a (n :: rest).length c) (n :: rest).length 1 ((n :: rest).map Value.string)) (hl : rest.length ≤ 1000) (hab : ∀ ad, a = some ad → ad.block ≠ bx) (fresh : Bool)
   (Q : Ending → World → Prop)
   (h1 : ∀ D1 code, beginD D (n :: rest) fresh = (D1, some code) → ∀ w', DAt w' D1 S bx bm col pv → Chg (fun k => k = bx) w w' → Q (.returned (.int .i64 code)) w')
   (h2 : ∀ D1, beginD D (n :: rest) fresh = (D1, none) → ∀ w', DAt w' D1 S bx bm col pv → Chg (fun k => k = bx) w w' → Calls Tryz.prog g (#[(fmap D.files pv n).getD (.pointer none)] ++ lb) w' fun e w2 => ∃ code : Int, e = .returned (.int .i64 code) ∧ Q e w2) :
   Calls Tryz.prog 92 #[.pointer (some ⟨bx, 0, none⟩), .agg #[.slice a (n :: rest).length c, .bool fresh, .func (.func g) #[] lb]] w Q := by
 have H := Lib.hid h
 have H1 := Lib.hid h1
 have H2 := Lib.hid h2
 have HR := Lib.hid hr
 have hbx := lt_of_heap h.blk
 obtain ⟨room, files, plan, down⟩ := D
 have hblk := h.blk
 simp only at hblk
 simp only [List.length_cons] at *
 clear h h1 h2 hr
 cases down with
 | true =>
   have HW : Hid (DAt (w.alloc (.cells #[.slice a (rest.length + 1) c, .bool fresh, .func (.func g) #[] lb] 144)) ⟨room, files, plan, true⟩ S bx bm col pv) := H.out.frame (fun k _ hk => Below.heap_alloc _ _ _ hk)
   have HCh : Hid (Chg (fun k => k = bx) w (w.alloc (.cells #[.slice a (rest.length + 1) c, .bool fresh, .func (.func g) #[] lb] 144))) := (Chg.refl _ _).alloc _
   have hx3 := cellAt HW.out.blk 3 (v := .bool true) rfl
   have HB1 := Lib.hid (H1.out ⟨room, files, plan, true⟩ 10 (by unfold beginD; rfl))
   go_enter Tryz.func92, Tryz.ntmps92
   go_wp2_with fail
   exact HB1.out _ HW.out HCh.out
 | false =>
   have HW : Hid (DAt (w.alloc (.cells #[.slice a (rest.length + 1) c, .bool fresh, .func (.func g) #[] lb] 144)) ⟨room, files, plan, false⟩ S bx bm col pv) := H.out.frame (fun k _ hk => Below.heap_alloc _ _ _ hk)
   have HCh : Hid (Chg (fun k => k = bx) w (w.alloc (.cells #[.slice a (rest.length + 1) c, .bool fresh, .func (.func g) #[] lb] 144))) := (Chg.refl _ _).alloc _
   have HC : Hid ((w.alloc (.cells #[.slice a (rest.length + 1) c, .bool fresh, .func (.func g) #[] lb] 144)).heap[w.heap.size]? = some (.cells #[.slice a (rest.length + 1) c, .bool fresh, .func (.func g) #[] lb] 144 (0, 0))) := heap_alloc_new _ _
   have HRA : Hid (Reads (w.alloc (.cells #[.slice a (rest.length + 1) c, .bool fresh, .func (.func g) #[] lb] 144)) (.slice a (rest.length + 1) c) (rest.length + 1) 1 ((n :: rest).map Value.string)) := HR.out.later ((Below.refl _ _).alloc (Nat.le_refl _) _)
   have hblk2 := HW.out.blk
   simp only at hblk2
   have hx2 := cellAt hblk2 2 (v := .int .i64 plan) rfl
   have hx3 := cellAt hblk2 3 (v := .bool false) rfl
   have hf2 := freeAt hblk2 2
   have hf3 := freeAt hblk2 3
   have HBK := Lib.hid hblk2
   clear hblk hblk2
   by_cases hp1 : plan = 1
   · subst hp1
     have HB1 := Lib.hid (H1.out ⟨room, files, 0, true⟩ 10 (by unfold beginD; rfl))
     go_enter Tryz.func92, Tryz.ntmps92
     go_upto_region 1 with fail
     generalize w.alloc (.cells #[.slice a (rest.length + 1) c, .bool fresh, .func (.func g) #[] lb] 144) = wa at *
     go_wp2_with fail
     have HBL := heap_store (heap_store HBK.out 2 (.int .i64 0)) 3 (.bool true)
     have HC2 : Chg (fun k => k = bx) wa _ := ((Chg.refl (fun k => k = bx) _).setCell (p := ⟨bx, 2, none⟩) (.inl rfl) (.int .i64 0)).setCell (p := ⟨bx, 3, none⟩) (.inl rfl) (.bool true)
     exact HB1.out _ (HW.out.head ⟨room, files, 0, true⟩ rfl HBL HC2) (HCh.out.trans HC2 (fun k hk => .inl hk))
   · have hpb : (plan == 1) = false := by simp [hp1]
     go_enter Tryz.func92, Tryz.ntmps92
     go_upto_region 1 with fail
     generalize w.alloc (.cells #[.slice a (rest.length + 1) c, .bool fresh, .func (.func g) #[] lb] 144) = wa at *
     go_upto_region 9 with fail
     have HBL := Lib.hid (heap_store HBK.out 2 (.int .i64 (max (plan - 1) 0)))
     have HC2 : Hid (Chg (fun k => k = bx) wa (wa.setCell ⟨bx, 2, none⟩ (.int .i64 (max (plan - 1) 0)))) := (Chg.refl (fun k => k = bx) _).setCell (p := ⟨bx, 2, none⟩) (.inl rfl) (.int .i64 (max (plan - 1) 0))
     have HWB := Lib.hid (HW.out.head ⟨room, files, max (plan - 1) 0, false⟩ rfl HBL.out HC2.out)
     have hne : w.heap.size ≠ bx := by omega
     have HCB := Lib.hid (HC2.out.heap HC.out hne)
     have HCW := Lib.hid (HCh.out.trans HC2.out (fun k hk => .inl hk))
     have HRB : Hid (Reads (wa.setCell ⟨bx, 2, none⟩ (.int .i64 (max (plan - 1) 0))) (.slice a (rest.length + 1) c) (rest.length + 1) 1 ((n :: rest).map Value.string)) := HRA.out.chg HC2.out (fun ad had _ e => hab ad had e)
     generalize wa.setCell ⟨bx, 2, none⟩ (.int .i64 (max (plan - 1) 0)) = wb at *
     clear hx2 hx3 hf2 hf3 HBK HC HRA HBL HC2 HW HCh
     have hx1 := cellAt HWB.out.blk 1 (v := .map (some bm)) rfl
     have hy0 := cellAt HCB.out 0 (v := .slice a (rest.length + 1) c) rfl
     obtain ⟨b, o, c', hv, hle, hblt, hcn⟩ := HRB.out.at (by omega)
     cases hv
     have hn0 : wb.cell? ⟨b, o, none⟩ = some (.string n) := by simpa using hcn 0 _ rfl
     clear hcn
     obtain ⟨P, hP⟩ : ∃ P, P = (fmap files pv n).getD (.pointer none) := ⟨_, rfl⟩
     obtain ⟨ok, hok⟩ : ∃ ok, ok = (findD files n).isSome := ⟨_, rfl⟩
     have hlk := lookD HWB.out.mp n P ok hP hok
     have HP := Lib.hid hP
     have HOK := Lib.hid hok
     rw [← hP] at H2
     clear hP hok
     have hlk2 := lookD (w := wb.drew) HWB.out.mp n P ok HP.out HOK.out
     go_region_held3 (fun w' => w'.cell? ⟨bx, 1, none⟩ = some (.map (some bm)) ∧ w'.cell? ⟨w.heap.size, 0, none⟩ = some (.slice (some ⟨b, o, none⟩) (rest.length + 1) c) ∧ w'.cell? ⟨b, o, none⟩ = some (.string n)) (exact ⟨hx1, hy0, hn0⟩) (fail)
     have HWD : Hid (DAt wb.drew ⟨room, files, max (plan - 1) 0, false⟩ S bx bm col pv) := HWB.out.frame (fun _ _ _ => rfl)
     have HCWD : Hid (Chg (fun k => k = bx) w wb.drew) := HCW.out.drew
     have HRD : Hid (Reads wb.drew (.slice (some ⟨b, o, none⟩) (rest.length + 1) c) (rest.length + 1) 1 ((n :: rest).map Value.string)) := HRB.out
     have HCD : Hid (wb.drew.heap[w.heap.size]? = some (.cells #[.slice (some ⟨b, o, none⟩) (rest.length + 1) c, .bool fresh, .func (.func g) #[] lb] 144 (0, 0))) := HCB.out
     clear hx1 hy0 hn0 hlk hlk2 HWB HCW HRB HCB hblt
     generalize wb.drew = wd at *
     clear wb
     have HK := Lib.hid (containsS_any (some ⟨b, o, none⟩) c (n :: rest) wd HRD.out (by simp only [List.length_cons]; omega))
     have hy0 := cellAt HCD.out 0 (v := .slice (some ⟨b, o, none⟩) (rest.length + 1) c) rfl
     obtain ⟨al, hal⟩ : ∃ al, al = (n :: rest).all namedB := ⟨_, rfl⟩
     have HAL := Lib.hid hal
     rw [← hal] at HK
     clear hal
     simp only [List.length_cons] at HK
     go_wp2_with fail
     refine HK.out.mono ?_
     rintro e w2 ⟨rfl, hb2⟩
     have HW2 := Lib.hid (HWD.out.frame (fun k _ hk => hb2.block k hk))
     have HC2 := Lib.hid (HCWD.out.trans (Chg.ofBelow (S := fun k => k = bx) hb2) (fun k hk => .inl hk))
     have HCC := Lib.hid ((hb2.block _ (lt_of_heap HCD.out)).trans HCD.out)
     have hz1 := cellAt HCC.out 1 (v := .bool fresh) rfl
     have hz2 := cellAt HCC.out 2 (v := .func (.func g) #[] lb) rfl
     have HBE : Hid (beginD ⟨room, files, plan, false⟩ (n :: rest) fresh = (⟨room, files, max (plan - 1) 0, false⟩, if al then (if ok then (if fresh then some 7 else none) else (if fresh then none else some 6)) else some 6)) := by
       rw [Hid, beginD, HAL.out, HOK.out]
       simp only [Bool.false_eq_true, if_false, if_neg hp1, List.headD_cons]
       congr 2
       cases findD files n <;> simp
     clear hb2 HK HWD HCWD HRD HCD hy0 HAL
     cases al with
     | false =>
       have H3 := Lib.hid (H1.out _ 6 (by rw [HBE.out]; rfl) w2 HW2.out HC2.out)
       go_wp2_with fail
       exact H3.out
     | true =>
       cases ok with
       | true =>
         cases fresh with
         | true =>
           have H3 := Lib.hid (H1.out _ 7 (by rw [HBE.out]; rfl) w2 HW2.out HC2.out)
           go_wp2_with fail
           exact H3.out
         | false =>
           have H3 := Lib.hid (H2.out _ (by rw [HBE.out]; rfl) w2 HW2.out HC2.out)
           go_wp2_with fail
           refine H3.out.mono ?_
           rintro e w3 ⟨code, rfl, hq⟩
           have HQ := Lib.hid hq
           clear hq H3
           go_wp2_with fail
           exact HQ.out
       | false =>
         cases fresh with
         | true =>
           have H3 := Lib.hid (H2.out _ (by rw [HBE.out]; rfl) w2 HW2.out HC2.out)
           go_wp2_with fail
           refine H3.out.mono ?_
           rintro e w3 ⟨code, rfl, hq⟩
           have HQ := Lib.hid hq
           clear hq H3
           go_wp2_with fail
           exact HQ.out
         | false =>
           have H3 := Lib.hid (H1.out _ 6 (by rw [HBE.out]; rfl) w2 HW2.out HC2.out)
           go_wp2_with fail
           exact H3.out
end Go.Proofs.YtgdmdbdljmlkkaaGreatDoor
