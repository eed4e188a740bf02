/- DList, Rf2 -/
import Derived.Test.YtgdmdbdljmlkkaaGreatDoorTz07
import Derived.Test.YtgdmdbdljmlkkaaGreatDoorTz09
import Derived.Test.YtgdmdbdljmlkkaaGreatDoorTz02
import Derived.Lib.SliceRun
import Derived.Deep.RegionLaw
import Derived.Deep.RegionHeld3
import Derived.StillTailTactics
set_option maxRecDepth 100000
set_option linter.unusedVariables false
set_option linter.unusedSimpArgs false
namespace Go.Proofs.YtgdmdbdljmlkkaaGreatDoor
open Go.RowKit
def appendD (D : DS) (n : ByteArray) (b : List UInt8) : DS × Int :=
 match beginD D [n] false with
 | (D1, some c) => (D1, c)
 | (D1, none) => if D1.room < sumD D1.files + b.length then (D1, 5) else
   match findD D1.files n with
   | some f => ({ D1 with files := setD D1.files n (f.b ++ b) f.d }, 0)
   | none => (D1, 0)
def fillD (D : DS) (n : ByteArray) (f : DF) (b : List UInt8) : DS × Int := if D.room < sumD D.files + b.length then (D, 5) else ({ D with files := setD D.files n (f.b ++ b) f.d }, 0)
theorem len_le_sum {l : List DF} {f : DF} (h : f ∈ l) : f.b.length ≤ sumD l := by
 induction l with
 | nil => cases h
 | cons a l ih =>
   simp only [sumD, List.map_cons, List.sum_cons] at ih ⊢
   rcases List.mem_cons.1 h with rfl | h
   · omega
   · have := ih h; omega
theorem DRep.tight {w : World} {x : Value} {D : DS} {S : Nat → Prop} (h : DRep w x D S) : DRep w x D (fun k => S k ∧ k < w.heap.size) := by
 obtain ⟨bx, bm, col, pv, h1, h2⟩ := h
 exact ⟨bx, bm, col, pv, h1, h2.tight⟩
theorem elemU8 : ElemOf Tryz.prog 72 5 (.int .u8 0) 1 1 := ⟨Tryz.underlying72, by kernel_rfl, rfl, by decide⟩
set_option maxHeartbeats 1000000 in
theorem append1_any (D : DS) (n : ByteArray) (f : DF) (S : Nat → Prop) (bx bm : Nat) (col : Nat → Option ByteArray) (pv : ByteArray → Nat) (w : World) (h : DAt w D S bx bm col pv) (hf : findD D.files n = some f) (hs : sumD D.files ≤ 1000000000)
   (b : List UInt8) (ba : Option Addr) (bc : Nat) (b0 b1 : Nat) (hb : b.length ≤ 1000000000) (hrb : Reads w (.slice ba b.length bc) b.length 1 (byts b))
   (h0 : w.heap[b0]? = some (.cells #[.pointer (some ⟨bx, 0, none⟩)] 26 (0, 0))) (h1 : w.heap[b1]? = some (.cells #[.slice ba b.length bc] 72 (0, 0))) :
   Calls Tryz.prog 126 #[.pointer (some ⟨pv n, 0, none⟩), .pointer (some ⟨b0, 0, none⟩), .pointer (some ⟨b1, 0, none⟩)] w fun e w' =>
     e = .returned (.int .i64 (fillD D n f b).2) ∧ DRep w' (.pointer (some ⟨bx, 0, none⟩)) (fillD D n f b).1 (fun k => S k ∨ w.heap.size ≤ k) ∧ Chg S w w' := by
 have hc0 := cellAt h0 0 rfl
 have hc1 := cellAt h1 0 rfl
 have hx0 := cellAt h.blk 0 (v := .int .i64 D.room) rfl
 have HU := Lib.hid (used_any (.pointer (some ⟨bx, 0, none⟩)) D S w.drew ⟨bx, bm, col, pv, rfl, h.frame (fun _ _ _ => rfl)⟩ hs)
 have H := Lib.hid h
 have H0 := Lib.hid h0
 have H1 := Lib.hid h1
 have HRB := Lib.hid hrb
 clear h h0 h1 hrb
 go_enter Tryz.func126, Tryz.ntmps126
 go_wp2_with fail
 go_region_held3 (fun w' => w'.cell? ⟨b0, 0, none⟩ = some (.pointer (some ⟨bx, 0, none⟩)) ∧ w'.cell? ⟨b1, 0, none⟩ = some (.slice ba b.length bc) ∧ w'.cell? ⟨bx, 0, none⟩ = some (.int .i64 D.room)) (first | exact ⟨hc0, hc1, hx0⟩ | exact ⟨HB1.out.1, HB1.out.2.1, HB1.out.2.2⟩)
   (first | (go_at_call 51; refine (HU.out).mono ?_; rintro e w1 ⟨rfl, hb1⟩
             have HBU : Hid (Below w.heap.size w w1) := (Below.refl w.heap.size w).drew.trans hb1
             have HB1 : Hid (w1.cell? ⟨b0, 0, none⟩ = some (.pointer (some ⟨bx, 0, none⟩)) ∧ w1.cell? ⟨b1, 0, none⟩ = some (.slice ba b.length bc) ∧ w1.cell? ⟨bx, 0, none⟩ = some (.int .i64 D.room)) :=
      ⟨(HBU.out.cell (p := ⟨b0, 0, none⟩) (lt_of_heap H0.out)).trans hc0, (HBU.out.cell (p := ⟨b1, 0, none⟩) (lt_of_heap H1.out)).trans hc1, (HBU.out.cell (p := ⟨bx, 0, none⟩) (lt_of_heap H.out.blk)).trans hx0⟩
             clear hb1))
 rw [IntWalk.i64_in _ (by omega)]
 clear HU hc0 hc1 hx0
 have HAT := Lib.hid (H.out.tight.frame (fun k _ hk => HBU.out.block k hk))
 by_cases hfull : D.room < sumD D.files + b.length
 · have HV : Hid (fillD D n f b = (D, 5)) := if_pos hfull
   go_wp2
   go_ret
   rw [HV.out]
   exact ⟨rfl, ⟨bx, bm, col, pv, rfl, HAT.out.mono (fun k hk => .inl hk.1)⟩, Chg.ofBelow HBU.out⟩
 · have HV : Hid (fillD D n f b = ({ D with files := setD D.files n (f.b ++ b) f.d }, 0)) := if_neg hfull
   obtain ⟨hfn, hfm⟩ := findD_name hf
   have hfl := len_le_sum hfm
   have hfr := HAT.out.fl f hfm
   rw [hfn] at hfr
   obtain ⟨a, c, T, h1, h2, h3, h4, h5, h6, h7⟩ := hfr
   have HF1 := Lib.hid h1
   have HROW := Lib.hid h2
   have HT : Hid ((S (pv n) ∧ pv n < w.heap.size) ∧ col (pv n) = some n) := h3
   have HT4 := Lib.hid h4
   have HT5 := Lib.hid h5
   have HD := Lib.hid h6
   have hp0 := cellAt HF1.out 0 (v := .slice a f.b.length c) rfl
   have hd1 := HB1.out.2.1
   have HRB1 := Lib.hid (HRB.out.later HBU.out)
   have hlen := h7
   unfold maxLen at hlen
   clear h1 h2 h3 h4 h5 h6 h7
   go_wp2_with fail
   go_region_law
     (refine step_row elemU8 rfl rfl (S := T) (v := .slice a f.b.length c) (n := f.b.length) (xs := byts f.b) rfl (show Row w1.drew _ _ _ _ _ _ from HROW.out) (y := .slice ba b.length bc) (m := b.length) (news := byts b) rfl (show Reads w1.drew _ _ _ _ from HRB1.out) (byts_one b) (by unfold maxLen; omega) (by omega) ?_; intro v5 w5 hr5 hch5
      obtain ⟨a5, c5, rfl⟩ : ∃ a5 c5, v5 = .slice a5 (f.b.length + b.length) c5 := (by obtain ⟨-, a5, c5, h, -⟩ := hr5.reads; exact ⟨a5, c5, h⟩)
      have HR5 := Lib.hid hr5
      have HCH5 := Lib.hid hch5
      have HF5 : Hid (w5.heap[pv n]? = some (.cells #[.slice a f.b.length c, .int .i64 f.d] 118 (0, 0))) := hch5.heap HF1.out HT4.out
      have hp5 := cellAt HF5.out 0 (v := .slice a f.b.length c) rfl
      have hf5 := freeAt HF5.out 0
      clear hr5 hch5)
   all_goals
     have HW6 := Lib.hid (heap_store HF5.out 0 (.slice a5 (f.b.length + b.length) c5))
     have HC6 : Hid (Chg (fun k => (S k ∧ k < w.heap.size) ∧ col k = some n) w (w5.setCell ⟨pv n, 0, none⟩ (.slice a5 (f.b.length + b.length) c5))) :=
       (((Chg.ofBelow HBU.out).drew).trans (HCH5.out.mono HT5.out) (fun k hk => .inl hk)).setCell (p := ⟨pv n, 0, none⟩) (.inl HT.out) _
     have HF6 : Hid (FRep (w5.setCell ⟨pv n, 0, none⟩ (.slice a5 (f.b.length + b.length) c5)) (pv n) (f.b ++ b) f.d (fun k => ((S k ∧ k < w.heap.size) ∧ col k = some n) ∨ w.heap.size ≤ k)) := by
       have hw1 := HBU.out.size
       refine ⟨a5, c5, fun k => T k ∨ w1.heap.size ≤ k, by rw [List.length_append]; exact HW6.out, ?_, .inl HT.out, ?_, ?_, ?_, ?_⟩
       · rw [List.length_append, byts_append]
         exact HR5.out.frame (fun k hk _ => Below.heap_setCell _ _ _ _ (fun e => by
           have e' : k = pv n := e
           subst e'
           rcases hk with hk | hk
           · exact HT4.out hk
           · have h9 := HT.out.1.2; have h8 : w1.heap.size ≤ pv n := hk; omega))
       · rintro (hk | hk)
         · exact HT4.out hk
         · have h9 := HT.out.1.2; have h8 : w1.heap.size ≤ pv n := hk; omega
       · rintro k (hk | hk)
         · exact .inl (HT5.out k hk)
         · have h8 : w1.heap.size ≤ k := hk; exact .inr (by omega)
       · have := HD.out; rw [List.length_append]; omega
       · rw [List.length_append]; unfold maxLen; omega
     have HFin := Lib.hid (H.out.tight.set HC6.out HF6.out)
     generalize w5.setCell ⟨pv n, 0, none⟩ (.slice a5 (f.b.length + b.length) c5) = w6 at *
     clear HW6 HF6 HR5 HCH5 HF5
     go_wp2
     go_ret
     rw [HV.out]
     exact ⟨rfl, ⟨bx, bm, _, _, rfl, HFin.out.mono (fun k hk => hk.imp_left (fun h => h.1))⟩, HC6.out.mono (fun k hk => hk.1.1)⟩
set_option maxHeartbeats 1000000 in
theorem append_any (x : Value) (n : ByteArray) (b : List UInt8) (ba : Option Addr) (bc : Nat) (D : DS) (S : Nat → Prop) (w : World) (h : DRep w x D S) (hp : 0 ≤ D.plan ∧ D.plan ≤ 9223372036854775807) (hs : sumD D.files ≤ 1000000000) (hb : b.length ≤ 1000000000) (hrb : Reads w (.slice ba b.length bc) b.length 1 (byts b)) (hnb : ∀ ad, ba = some ad → 0 < b.length → ¬ S ad.block) :
   Calls Tryz.prog 72 #[x, .string n, .slice ba b.length bc] w (DPost w x S (appendD D n b)) := by
 obtain ⟨bx, bm, col, pv, rfl, h⟩ := h
 have H := Lib.hid h
 have HRB := Lib.hid hrb
 have hmf : ∀ fn first cap w, (Instr.makeFunc fn first cap).run Tryz.prog w = .ok (.func fn first cap) w := fun _ _ _ _ => rfl
 have hbx := lt_of_heap h.blk
 have hbm := h.mp.lt
 clear h
 have HB : Hid (Below w.heap.size w (((w.alloc (.cells #[.pointer (some ⟨bx, 0, none⟩)] 26)).alloc (.cells #[.slice ba b.length bc] 72)).alloc (.cells #[.string n] 9))) := (((Below.refl _ _).alloc (Nat.le_refl _) _).alloc (by simp) _).alloc (by simp; omega) _
 have H0 : Hid ((((w.alloc (.cells #[.pointer (some ⟨bx, 0, none⟩)] 26)).alloc (.cells #[.slice ba b.length bc] 72)).alloc (.cells #[.string n] 9)).heap[w.heap.size]? = some (.cells #[.pointer (some ⟨bx, 0, none⟩)] 26 (0, 0))) := by
   rw [Hid, Below.heap_alloc _ _ _ (by simp; omega), Below.heap_alloc _ _ _ (by simp)]; exact heap_alloc_new w _
 have H1 : Hid ((((w.alloc (.cells #[.pointer (some ⟨bx, 0, none⟩)] 26)).alloc (.cells #[.slice ba b.length bc] 72)).alloc (.cells #[.string n] 9)).heap[w.heap.size + 1]? = some (.cells #[.slice ba b.length bc] 72 (0, 0))) := by
   rw [Hid, Below.heap_alloc _ _ _ (by simp)]
   have := heap_alloc_new (w.alloc (.cells #[.pointer (some ⟨bx, 0, none⟩)] 26)) (.cells #[.slice ba b.length bc] 72)
   rwa [World.size_alloc] at this
 have H2 : Hid ((((w.alloc (.cells #[.pointer (some ⟨bx, 0, none⟩)] 26)).alloc (.cells #[.slice ba b.length bc] 72)).alloc (.cells #[.string n] 9)).heap[w.heap.size + 1 + 1]? = some (.cells #[.string n] 9 (0, 0))) := by
   have := heap_alloc_new ((w.alloc (.cells #[.pointer (some ⟨bx, 0, none⟩)] 26)).alloc (.cells #[.slice ba b.length bc] 72)) (.cells #[.string n] 9)
   rwa [World.size_alloc, World.size_alloc] at this
 go_enter Tryz.func72, Tryz.ntmps72
 go_wp2_with fail
 generalize (((w.alloc (.cells #[.pointer (some ⟨bx, 0, none⟩)] 26)).alloc (.cells #[.slice ba b.length bc] 72)).alloc (.cells #[.string n] 9)) = w3 at *
 have HBS := Lib.hid (Chg.ofBelow (S := S) HB.out)
 have HRUN : Hid (Calls Tryz.prog 92 #[.pointer (some ⟨bx, 0, none⟩), .agg #[.slice (some ⟨w.heap.size + 1 + 1, 0, none⟩) 1 1, .bool false, .func (.func 126) #[] #[.pointer (some ⟨w.heap.size, 0, none⟩), .pointer (some ⟨w.heap.size + 1, 0, none⟩)]]] w3 (DPost w (.pointer (some ⟨bx, 0, none⟩)) S (appendD D n b))) := by
   have hsz := HB.out.size
   refine run_any 126 #[.pointer (some ⟨w.heap.size, 0, none⟩), .pointer (some ⟨w.heap.size + 1, 0, none⟩)] (enters_of Tryz.func126 (by kernel_rfl) rfl) D S bx bm col pv w3 (H.out.frame (fun k _ hk => HB.out.block k hk)) hp (some ⟨w.heap.size + 1 + 1, 0, none⟩) 1 n [] (Reads.block H2.out 1 1 rfl) (by simp) (fun ad had => by cases had; show w.heap.size + 1 + 1 ≠ bx; omega) false _ ?_ ?_
   · intro D1 code hbe w' hd hch
     refine ⟨by unfold appendD; rw [hbe], ?_, HBS.out.trans (hch.mono (T := S) (fun k hk => by rw [hk]; exact H.out.sx.1)) (fun k hk => .inl hk)⟩
     unfold appendD
     rw [hbe]
     exact ⟨bx, bm, col, pv, rfl, hd.mono (fun k hk => .inl hk)⟩
   · intro D1 hbe w' hd hch
     obtain ⟨hD1, hf1, -⟩ := beginD_none hbe
     obtain ⟨f, hf⟩ := Option.isSome_iff_exists.1 hf1
     have hf' : findD D1.files n = some f := by rw [hD1]; exact hf
     rw [fmap_some hf]
     have k0 := hch.heap H0.out (by omega)
     have k1 := hch.heap H1.out (by omega)
     have hrw : Reads w' (.slice ba b.length bc) b.length 1 (byts b) := (HRB.out.later HB.out).chg hch (fun ad had hp e => hnb ad had (by rwa [byts_length] at hp) (by rw [show ad.block = bx from e]; exact H.out.sx.1))
     refine (append1_any D1 n f S bx bm col pv w' hd hf' (by rw [hD1]; exact hs) b ba bc w.heap.size (w.heap.size + 1) hb hrw k0 k1).mono ?_
     rintro e w2 ⟨rfl, hrep, hch2⟩
     have hv : appendD D n b = fillD D1 n f b := by unfold appendD fillD; rw [hbe]; simp only; rw [hf']
     rw [hv]
     have := hch.size
     exact ⟨_, rfl, rfl, hrep.mono (fun k hk => hk.imp_right (fun h => by omega)), (HBS.out.trans (hch.mono (T := S) (fun k hk => by rw [hk]; exact H.out.sx.1)) (fun k hk => .inl hk)).trans hch2 (fun k hk => .inl hk)⟩
 clear H0 H1 H2 hmf
 refine HRUN.out.mono ?_
 rintro e w4 ⟨rfl, hrep, hch⟩
 have HREP := Lib.hid hrep
 have HCH := Lib.hid hch
 clear hrep hch HRUN
 go_wp2
 go_ret
 exact ⟨rfl, HREP.out, HCH.out⟩
theorem new_any (room : Int) (w : World) :
   Calls Tryz.prog 38 #[.int .i64 room] w fun e w' => ∃ x, e = .returned x ∧ DRep w' x ⟨max room 0, [], 0, false⟩ (fun k => w.heap.size ≤ k) ∧ Below w.heap.size w w' := by
 have hmm := @run_makeMap Tryz.prog
 have hu1 := Tryz.underlying113
 go_enter Tryz.func38, Tryz.ntmps38
 go_wp2
 go_ret
 have hB := ((Below.refl w.heap.size w).alloc (Nat.le_refl _) (.map #[] 0)).alloc (by simp <;> omega) (.cells #[.int .i64 (max room 0), .map (some w.heap.size), .int .i64 0, .bool false] 115)
 have m1 := MapFn.made w Value.string
 have b4 := heap_alloc_new (w.alloc (.map #[] 0)) (.cells #[.int .i64 (max room 0), .map (some w.heap.size), .int .i64 0, .bool false] 115)
 simp only [World.size_alloc] at b4
 refine ⟨_, rfl, ⟨w.heap.size + 1, w.heap.size, fun _ => none, fun _ => 0, rfl, ?_⟩, hB⟩
 exact { blk := b4, mp := m1.frame (by rw [Below.heap_alloc _ _ _ (by simp <;> omega)]), fl := fun f hf => (List.not_mem_nil hf).elim, nd := List.Pairwise.nil, sx := ⟨by omega, Nat.le_refl _⟩, cx := ⟨rfl, rfl⟩, ne := by omega }
theorem arm_any (x : Value) (n : Int) (D : DS) (S : Nat → Prop) (w : World) (h : DRep w x D S) :
   Calls Tryz.prog 26 #[x, .int .i64 n] w fun e w' => e = .returned (.tuple #[]) ∧ DRep w' x { D with plan := max n 0 } S ∧ Chg S w w' := by
 obtain ⟨bx, bm, col, pv, rfl, h⟩ := h
 have hc2 := cellAt h.blk 2 (v := .int .i64 D.plan) rfl
 have hf2 := freeAt h.blk 2
 have HB := Lib.hid (heap_store h.blk 2 (.int .i64 (max n 0)))
 have HC : Hid (Chg (fun k => k = bx) w (w.setCell ⟨bx, 2, none⟩ (.int .i64 (max n 0)))) := (Chg.refl (fun k => k = bx) _).setCell (p := ⟨bx, 2, none⟩) (.inl rfl) _
 have H := Lib.hid h
 clear h
 go_enter Tryz.func26, Tryz.ntmps26
 go_wp2
 go_end0
 exact ⟨rfl, ⟨bx, bm, col, pv, rfl, H.out.head { D with plan := max n 0 } rfl HB.out HC.out⟩, HC.out.mono (fun k hk => by rw [hk]; exact H.out.sx.1)⟩
theorem down_any (x : Value) (D : DS) (S : Nat → Prop) (w : World) (h : DRep w x D S) :
   Calls Tryz.prog 63 #[x] w fun e w' => e = .returned (.bool D.down) ∧ w' = w := by
 obtain ⟨bx, bm, col, pv, rfl, h⟩ := h
 have hc3 := cellAt h.blk 3 (v := .bool D.down) rfl
 clear h
 go_enter Tryz.func63, Tryz.ntmps63
 go_wp2
 go_ret
 exact ⟨rfl, rfl⟩
set_option maxHeartbeats 1000000 in
theorem bclone_any (ao : Option Addr) (n c : Nat) (xs : List Value) (w : World) (h : Reads w (.slice ao n c) n 1 xs) (h1 : ∀ u ∈ xs, u.oneCell' = true) (hn : n ≤ 2000000000) :
   Calls Tryz.prog 118 #[.slice ao n c] w fun e w' => ∃ v', e = .returned v' ∧ Row w' 5 1 v' n xs (fun b => w.heap.size ≤ b) ∧ Below w.heap.size w w' := by
 cases ao with
 | none =>
   obtain ⟨hl, _, _, he, _, hnn, _⟩ := h
   cases he
   obtain ⟨rfl, rfl⟩ := hnn rfl
   obtain rfl : xs = [] := List.eq_nil_of_length_eq_zero (by simpa using hl)
   have he : (binOp .eql 72 (.slice none 0 0) (.slice none 0 0)).run Tryz.prog w = .ok (.bool true) w := by kernel_rfl
   go_enter Tryz.func118, Tryz.ntmps118
   go_wp2
   go_ret
   exact ⟨_, rfl, Row.nil _ _ _ _, Below.refl _ _⟩
 | some ad =>
   have he : ∀ W, (binOp .eql 72 (.slice (some ad) n c) (.slice none 0 0)).run Tryz.prog W = .ok (.bool false) W := fun W => Lib.run_eql_slice_nil W _ _ (some ad) n c 0 0 Tryz.underlying72
   have H := Lib.hid h
   have H1 := Lib.hid h1
   clear h h1
   go_enter Tryz.func118, Tryz.ntmps118
   go_wp2_with (refine wpList_row elemU8 rfl rfl (S := fun b => w.heap.size ≤ b) (v := .slice (some ⟨w.heap.size, 0, none⟩) 0 0) (n := 0) (xs := []) rfl (Row.ofOwns (owns_empty _ _ _ _ (Nat.le_refl _) rfl)) (y := .slice (some ad) n c) (m := n) (news := xs) rfl (H.out.later ((Below.refl _ _).alloc (Nat.le_refl _) _)) H1.out (by unfold maxLen; omega) (by omega) ?_; intro v' w' hr hc)
   go_ret
   refine ⟨_, rfl, ?_, ?_⟩
   · rw [Nat.zero_add, List.nil_append] at hr
     exact hr.mono (fun b hb => by rcases hb with hb | hb; exact hb; simp only [World.size_alloc] at hb; omega)
   · exact ((Below.refl _ _).alloc (Nat.le_refl _) _).trans (hc.toBelow (by simp) (fun n hn h => by omega))
def readD (D : DS) (n : ByteArray) : List UInt8 × Int :=
 if D.down then ([], 10) else match findD D.files n with
 | some f => (f.b, 0)
 | none => ([], 6)
set_option maxHeartbeats 1000000 in
theorem read_any (x : Value) (n : ByteArray) (D : DS) (S : Nat → Prop) (w : World) (h : DRep w x D S) (hs : sumD D.files ≤ 1000000000) :
   Calls Tryz.prog 57 #[x, .string n] w fun e w' => ∃ v, e = .returned (.tuple #[v, .int .i64 (readD D n).2]) ∧ Row w' 5 1 v (readD D n).1.length (byts (readD D n).1) (fun k => w.heap.size ≤ k) ∧ Below w.heap.size w w' := by
 obtain ⟨bx, bm, col, pv, rfl, h⟩ := h
 have hc3 := cellAt h.blk 3 (v := .bool D.down) rfl
 have hc1 := cellAt h.blk 1 (v := .map (some bm)) rfl
 have H := Lib.hid h
 have hlk0 := lookD h.mp n
 clear h
 by_cases hd : D.down = true
 · have HV : Hid (readD D n = ([], 10)) := by rw [Hid, readD, if_pos hd]
   rw [hd] at hc3
   rw [HV.out]
   clear hlk0
   go_enter Tryz.func57, Tryz.ntmps57
   go_wp2
   go_ret2
   exact ⟨_, rfl, Row.nil _ _ _ _, Below.refl _ _⟩
 · have hd' : D.down = false := by simpa using hd
   rw [hd'] at hc3
   cases hf : findD D.files n with
   | none =>
     have HV : Hid (readD D n = ([], 6)) := by rw [Hid, readD, if_neg hd, hf]
     have hlk := hlk0 (.pointer none) false (by unfold fmap; rw [hf]; rfl) (by rw [hf]; rfl)
     rw [HV.out]
     clear hlk0
     go_enter Tryz.func57, Tryz.ntmps57
     go_wp2
     go_ret2
     exact ⟨_, rfl, Row.nil _ _ _ _, Below.refl _ _⟩
   | some f =>
     have HV : Hid (readD D n = (f.b, 0)) := by rw [Hid, readD, if_neg hd, hf]
     have hlk := hlk0 (.pointer (some ⟨pv n, 0, none⟩)) true (by rw [fmap_some hf]) (by rw [hf]; rfl)
     rw [HV.out]
     clear hlk0
     obtain ⟨hfn, hfm⟩ := findD_name hf
     have hfr := H.out.fl f hfm
     rw [hfn] at hfr
     have hfl := len_le_sum hfm
     obtain ⟨a, c, T, h1, h2, -⟩ := hfr
     have hp0 := cellAt h1 0 (v := .slice a f.b.length c) rfl
     have HBC := Lib.hid (bclone_any a f.b.length c (byts f.b) w h2.reads (byts_one _) (by omega))
     clear h1 h2
     go_enter Tryz.func57, Tryz.ntmps57
     go_wp2_with fail
     refine HBC.out.mono ?_
     rintro e w1 ⟨v, rfl, hr, hb⟩
     have HR := Lib.hid hr
     have HB := Lib.hid hb
     clear hr hb HBC
     go_wp2
     go_ret2
     exact ⟨_, rfl, HR.out, HB.out⟩
end Go.Proofs.YtgdmdbdljmlkkaaGreatDoor
namespace Go.Proofs.YtgdmdbdljmlkkaaGreatDoor
open Go.RowKit Go.Maps Go.Sort Go.Shelf Go.Proofs
theorem keys_any (mb : Option Nat) (w : World) :
   Calls Tryz.prog 111 #[.map mb] w fun e w' => e = .returned (.func (.func 151) #[] #[.pointer (some ⟨w.heap.size, 0, none⟩)]) ∧ w'.heap[w.heap.size]? = some (.cells #[.map mb] 113 (0, 0)) ∧ Below w.heap.size w w' := by
 refine (callsIn_wide.1 (AnyZ.keys_in Tryz.keysF Fence.wide 5 trivial rfl mb w)).mono ?_
 rintro e w' ⟨rfl, rfl⟩
 exact ⟨rfl, heap_alloc_new w _, (Below.refl _ _).alloc (Nat.le_refl _) _⟩
theorem sorts_any (m : Nat) : AnyZ.SortsIn Tryz.prog Tryz.sortedS_ren Fence.wide m :=
 ⟨fun blk off cap ss W hH hblk hsz => callsIn_wide.2 (AnyM.slices_Sort_string Tryz.sortS blk off cap ss W hH hblk hsz),
  fun p cap W => callsIn_wide.2 (AnyM.slices_Sort_string_none Tryz.sortS p cap W)⟩
theorem sorted_any {Bm b nn : Nat} {D0 : DataW Unit} (w : World) (hBm : w.heap[Bm]? = some (.cells #[.map (some b)] 113 (0, 0))) (hown : w.ownsMap Tryz.prog 9 anyR b nn D0) (hN : size D0 ≤ 100000) :
   Calls Tryz.prog 110 #[.func (.func 151) #[] #[.pointer (some ⟨Bm, 0, none⟩)]] w fun e w' =>
     ∃ (v : Value) (ss : List (List UInt8)), e = .returned v ∧ ss.Perm (strKeys D0) ∧ w'.ownsRow w.heap.size 9 1 v ss.length ((ss.mergeSort leS).map encStr) ∧ Below w.heap.size w w' := by
 have hc : w.cell? ⟨Bm, 0, none⟩ = some (.map (some b)) := by simp [World.cell?, hBm]
 have hseq := AnyZ.keys_gives (ρ := Tryz.keysF_ren) { Tryz.keysF with } Fence.wide (5 - 1 - 1 - 1) trivial rfl (by omega) Bm b nn D0 w (lt_of_heap hBm) hc hown
 refine (callsIn_wide.1 (AnyZ.sorted_in Tryz.sortedS Fence.wide 5 trivial trivial trivial trivial rfl (by omega) (sorts_any _) (enters_of Tryz.func150 (by kernel_rfl) rfl) 151 #[.pointer (some ⟨Bm, 0, none⟩)] trivial (enters_of Tryz.func151 (by kernel_rfl) rfl) _ _ (by unfold maxLen; omega) (by omega) w hseq)).mono ?_
 rintro e w' ⟨v, ss, rfl, h1, h2, -, h3⟩
 exact ⟨v, ss, rfl, h1, h2, h3⟩
theorem ownsMap_later {w w' : World} {b n : Nat} {D0 : DataW Unit} (h : w.ownsMap Tryz.prog 9 anyR b n D0) (hb : Below w.heap.size w w') : w'.ownsMap Tryz.prog 9 anyR b n D0 := by
 have hbl := h.lt
 obtain ⟨es, clock, h1, Ft, hs, hD⟩ := h
 exact ⟨es, clock, (hb.block b hbl).trans h1, Ft, hs, hD⟩
set_option maxHeartbeats 1000000 in
theorem list_any (x : Value) (D : DS) (S : Nat → Prop) (w : World) (h : DRep w x D S) (hl : D.files.length ≤ 100000) (hnm : ∀ f ∈ D.files, f.name.size ≤ maxLen) :
   Calls Tryz.prog 49 #[x] w fun e w' => ∃ (v : Value) (ss : List (List UInt8)), e = .returned v ∧ Row w' 9 1 v ss.length (ss.map encStr) (fun k => w.heap.size ≤ k) ∧ Below w.heap.size w w' ∧ ss.Pairwise (· < ·) ∧ ∀ s : List UInt8, s ∈ ss ↔ ⟨s.toArray⟩ ∈ D.files.map DF.name := by
 obtain ⟨bx, bm, col, pv, rfl, h⟩ := h
 have hc1 := cellAt h.blk 1 (v := .map (some bm)) rfl
 have hmem : ∀ n, fmap D.files pv n ≠ none ↔ n ∈ D.files.map DF.name := fun n => by
   have := findD_none (l := D.files) (n := n)
   unfold fmap
   rw [ne_eq, Option.map_eq_none_iff, this]
   exact Classical.not_not
 obtain ⟨D0, hD, hsz, hk⟩ := map_names h.mp (D.files.map DF.name) (fun n hn => (hmem n).1 hn) (fun n hn => by obtain ⟨f, hf, rfl⟩ := List.mem_map.1 hn; exact hnm f hf) (by rw [List.length_map]; unfold maxLen; omega)
 rw [List.length_map] at hsz
 have HD := Lib.hid hD
 have HK := Lib.hid hk
 have HM := Lib.hid hmem
 clear h hD hk hmem hnm
 go_enter Tryz.func49, Tryz.ntmps49
 go_wp2_with fail
 refine (keys_any _ _).mono ?_
 rintro e w1 ⟨rfl, hx1, hb1⟩
 have HB1 := Lib.hid hb1
 have HX1 := Lib.hid hx1
 clear hx1 hb1
 go_wp2_with fail
 refine (sorted_any _ HX1.out (ownsMap_later HD.out HB1.out) (by omega)).mono ?_
 rintro e w2 ⟨v, ss, rfl, hp, hr, hb2⟩
 have HP := Lib.hid hp
 have HR := Lib.hid hr
 have HB2 := Lib.hid (HB1.out.trans (hb2.mono HB1.out.size))
 clear hp hr hb2
 go_wp2
 go_ret
 have hperm := sortS_perm ss
 have hlen := hperm.length_eq
 obtain ⟨hnd, hmm⟩ := HK.out ss HP.out
 refine ⟨v, ss.mergeSort leS, rfl, ?_, HB2.out, ?_, fun s => ?_⟩
 · have h1 := Row.ofOwns HR.out
   rw [← hlen] at h1
   have := HB1.out.size
   exact h1.mono (fun k hk => by omega)
 · have hnd2 := hperm.nodup_iff.2 hnd
   exact (List.Pairwise.and (sortS_sorted ss) hnd2).imp (fun h => ltS_of h.1 h.2)
 · rw [hperm.mem_iff, hmm, HM.out]
end Go.Proofs.YtgdmdbdljmlkkaaGreatDoor
namespace Go.Proofs.YtgdmdbdljmlkkaaGreatDoor
open Go.RowKit
structure RF where
 f : DF
 a : Option Addr
 c : Nat
def RF.v (r : RF) : Value := .slice r.a r.f.b.length r.c
abbrev rcells (r : RF) : List Value := [.string r.f.name, .slice r.a r.f.b.length r.c, .int .i64 r.f.d]
theorem rcells_len (r : RF) : (rcells r).length = 3 := rfl
theorem rcells_one (R : List RF) : ∀ u ∈ R.flatMap rcells, u.oneCell' = true := by
 intro u hu
 obtain ⟨x, -, hx⟩ := List.mem_flatMap.1 hu
 simp only [rcells, List.mem_cons, List.not_mem_nil, or_false] at hx
 rcases hx with rfl | rfl | rfl <;> rfl
theorem elemR : ElemOf Tryz.prog 30 120 (.agg #[.string ⟨#[]⟩, .slice none 0 0, .int .i64 0]) 3 48 := ⟨Tryz.underlying30, by kernel_rfl, rfl, by decide⟩
def okR (w : World) (T : Nat → Prop) (r : RF) : Prop := Row w 5 1 r.v r.f.b.length (byts r.f.b) T ∧ r.f.d ≤ r.f.b.length ∧ r.f.b.length ≤ 1000000000
structure RLi (w : World) (v : Value) (R : List RF) (T : Nat → Prop) : Prop where
 row : Row w 120 3 v R.length (R.flatMap rcells) T
 byt : ∀ r ∈ R, okR w T r
theorem RLi.frame {w w' : World} {v : Value} {R : List RF} {T : Nat → Prop} (h : RLi w v R T) (hb : ∀ k, T k → k < w.heap.size → w'.heap[k]? = w.heap[k]?) : RLi w' v R T :=
 ⟨h.row.frame hb, fun r hr => ⟨(h.byt r hr).1.frame hb, (h.byt r hr).2⟩⟩
theorem RLi.mono {w : World} {v : Value} {R : List RF} {T T' : Nat → Prop} (h : RLi w v R T) (hT : ∀ k, T k → T' k) : RLi w v R T' :=
 ⟨h.row.mono hT, fun r hr => ⟨(h.byt r hr).1.mono hT, (h.byt r hr).2⟩⟩
theorem RLi.below {w w' : World} {v : Value} {R : List RF} {T : Nat → Prop} (h : RLi w v R T) (hb : Below w.heap.size w w') : RLi w' v R T := h.frame (fun k _ hk => hb.block k hk)
theorem RLi.nil (w : World) (T : Nat → Prop) : RLi w (.slice none 0 0) [] T := ⟨Row.nil _ _ _ _, fun r hr => (List.not_mem_nil hr).elim⟩
theorem slice_form {w : World} {e : TypeId} {size : Nat} {v : Value} {n : Nat} {xs : List Value} {R : Nat → Prop} (h : Row w e size v n xs R) : ∃ a c, v = .slice a n c := by
 obtain ⟨-, a, c, h, -⟩ := h.reads; exact ⟨a, c, h⟩
theorem RLi.cells {w : World} {v : Value} {R : List RF} {T : Nat → Prop} (h : RLi w v R T) (hn : 0 < R.length) :
   ∃ b o c, v = .slice (some ⟨b, o, none⟩) R.length c ∧ R.length ≤ c ∧ b < w.heap.size ∧ ∀ j (hj : j < R.length), w.cell? ⟨b, o + j * 3, none⟩ = some (.string R[j].f.name) ∧ w.cell? ⟨b, o + j * 3 + 1, none⟩ = some (.slice R[j].a R[j].f.b.length R[j].c) ∧
     w.cell? ⟨b, o + j * 3 + 2, none⟩ = some (.int .i64 R[j].f.d) := by
 have hr := h.row.reads
 obtain ⟨-, ao, c, rfl, -⟩ := id hr
 obtain ⟨b, o, rfl, h1, -, h2, h3⟩ := hr.atN hn (by decide)
 refine ⟨b, o, c, rfl, h1, h2, fun j hj => ⟨?_, ?_, ?_⟩⟩
 · exact h3 (j * 3) _ (by simpa using fm_get rcells_len (List.getElem?_eq_getElem hj) 0 _ rfl)
 · rw [Nat.add_assoc]; exact h3 (j * 3 + 1) _ (fm_get rcells_len (List.getElem?_eq_getElem hj) 1 _ rfl)
 · rw [Nat.add_assoc]; exact h3 (j * 3 + 2) _ (fm_get rcells_len (List.getElem?_eq_getElem hj) 2 _ rfl)
theorem str_ne {a b : ByteArray} (h : ¬ a = b) : (¬ a.toList = b.toList) ∧ (a.toList == b.toList) = false := by
 have h1 : ¬ a.toList = b.toList := fun e => h (by
   have h2 := ba_beq a b
   rw [beq_toListBytes, e] at h2
   simpa using h2)
 exact ⟨h1, by simpa using h1⟩
theorem cells4 {w : World} {b : Nat} {x0 x1 x2 x3 : Value} {t : TypeId} {fr : Nat × Nat} (h : w.heap[b]? = some (.cells #[x0, x1, x2, x3] t fr)) :
   w.cell? ⟨b, 0, none⟩ = some x0 ∧ w.cell? ⟨b, 1, none⟩ = some x1 ∧ w.cell? ⟨b, 2, none⟩ = some x2 ∧ w.cell? ⟨b, 3, none⟩ = some x3 :=
 ⟨cellAt h 0 rfl, cellAt h 1 rfl, cellAt h 2 rfl, cellAt h 3 rfl⟩
theorem cells3 {w : World} {b : Nat} {x0 x1 x2 : Value} {t : TypeId} {fr : Nat × Nat} (h : w.heap[b]? = some (.cells #[x0, x1, x2] t fr)) :
   w.cell? ⟨b, 0, none⟩ = some x0 ∧ w.cell? ⟨b, 1, none⟩ = some x1 ∧ w.cell? ⟨b, 2, none⟩ = some x2 :=
 ⟨cellAt h 0 rfl, cellAt h 1 rfl, cellAt h 2 rfl⟩
def posR : List RF → ByteArray → Int
 | [], _ => -1
 | r :: l, n => if r.f.name = n then 0 else if posR l n < 0 then -1 else posR l n + 1
theorem posR_hit {R : List RF} {n : ByteArray} {m : Nat} (hm : m < R.length) (h : R[m].f.name = n) (hl : ∀ j (hj : j < m), (R[j]'(by omega)).f.name ≠ n) : posR R n = (m : Int) := by
 induction R generalizing m with
 | nil => simp at hm
 | cons r l ih =>
   rw [posR]
   cases m with
   | zero => simp only [List.getElem_cons_zero] at h; rw [if_pos h]; rfl
   | succ m =>
     have h0 := hl 0 (by omega)
     simp only [List.getElem_cons_zero] at h0
     have := ih (m := m) (by simpa using hm) (by simpa using h) (fun j hj => by simpa using hl (j + 1) (by omega))
     rw [if_neg h0, this, if_neg (by omega)]; omega
theorem posR_miss {R : List RF} {n : ByteArray} (hl : ∀ j (hj : j < R.length), R[j].f.name ≠ n) : posR R n = -1 := by
 induction R with
 | nil => rfl
 | cons r l ih =>
   have h0 := hl 0 (by simp)
   simp only [List.getElem_cons_zero] at h0
   rw [posR, if_neg h0, ih (fun j hj => by have := hl (j + 1) (by simpa using hj); rwa [List.getElem_cons_succ] at this), if_pos (by omega)]
abbrev rdisk (room : Int) (v : Value) (plan : Int) (down : Bool) : Value := .agg #[.int .i64 room, v, .int .i64 plan, .bool down]
set_option maxHeartbeats 1000000 in
theorem rfind_any (room plan : Int) (down : Bool) (v : Value) (R : List RF) (T : Nat → Prop) (n : ByteArray) (w : World) (h : RLi w v R T) (hL : R.length ≤ 100000) :
   Calls Tryz.prog 70 #[rdisk room v plan down, .string n] w fun e w' => e = .returned (.int .i64 (posR R n)) ∧ Below w.heap.size w w' := by
 obtain ⟨la, lc, rfl⟩ := slice_form h.row
 have H := Lib.hid h
 clear h
 have HIT : Hid (∀ (m : Nat) (hm : m < R.length), R[m].f.name = n → (∀ j (hj : j < m), (R[j]'(by omega)).f.name ≠ n) → posR R n = (m : Int)) := fun m hm he hl => posR_hit hm he hl
 have MISS : Hid ((∀ j (hj : j < R.length), R[j].f.name ≠ n) → posR R n = -1) := fun hl => posR_miss hl
 generalize posR R n = pz at *
 have HBX : Hid ((w.alloc (.cells #[.int .i64 room, .slice la R.length lc, .int .i64 plan, .bool down] 32)).heap[w.heap.size]? = some (.cells #[.int .i64 room, .slice la R.length lc, .int .i64 plan, .bool down] 32 (0, 0))) := heap_alloc_new w _
 have HBel : Hid (Below w.heap.size w (w.alloc (.cells #[.int .i64 room, .slice la R.length lc, .int .i64 plan, .bool down] 32))) := (Below.refl _ _).alloc (Nat.le_refl _) _
 go_enter Tryz.func70, Tryz.ntmps70
 go_wp2
 generalize w.alloc (.cells #[.int .i64 room, .slice la R.length lc, .int .i64 plan, .bool down] 32) = wd at *
 go_loop [5] (fun i => ∃ m : Nat, m ≤ R.length ∧ i = .int .i64 m ∧ Hid (∀ j (hj : j < R.length), j < m → R[j].f.name ≠ n)) (fun i => R.length - (RowKit.intOf i).toNat)
 case atStart => exact ⟨0, by omega, rfl, fun j _ h => by omega⟩
 case round =>
   obtain ⟨m, hm, rfl, HLOW⟩ := hrel
   have hx1 := (cells4 HBX.out).2.1
   by_cases hlt : m < R.length
   · obtain ⟨b, o, c, he, hcap, hb, hcell⟩ := (H.out.below HBel.out).cells (by omega)
     obtain ⟨rfl, rfl⟩ : la = some ⟨b, o, none⟩ ∧ lc = c := by cases he; exact ⟨rfl, rfl⟩
     have hc := (hcell m hlt).1
     by_cases hk : R[m].f.name = n
     · have HE : Hid (pz = (m : Int)) := HIT.out m hlt hk (fun j hj => HLOW.out j (by omega) hj)
       rw [hk] at hc
       clear hcell he hk
       go_wp2
       go_ret
       exact ⟨congrArg (fun x => Ending.returned (.int .i64 x)) HE.out.symm, HBel.out⟩
     · obtain ⟨hne, hne2⟩ := str_ne hk
       have HN : Hid (∀ j (hj : j < R.length), j < m + 1 → R[j].f.name ≠ n) := fun j hj hjm => by
         rcases Nat.lt_or_ge j m with h | h
         · exact HLOW.out j hj h
         · have : j = m := by omega
           subst this; exact hk
       clear hcell he hk
       generalize R[m].f.name = key at *
       go_wp2
       go_round
       case rel => exact ⟨m + 1, by omega, by go_num, HN⟩
       case measure => simp [RowKit.intOf]; omega
   · have HE : Hid (pz = -1) := MISS.out (fun j hj => HLOW.out j hj (by omega))
     go_wp2
     go_ret
     exact ⟨congrArg (fun x => Ending.returned (.int .i64 x)) HE.out.symm, HBel.out⟩
def sumR (R : List RF) : Nat := (R.map fun r => r.f.b.length).sum
theorem sumR_succ {R : List RF} {m : Nat} (h : m < R.length) : sumR (R.take (m + 1)) = sumR (R.take m) + R[m].f.b.length := by
 unfold sumR
 rw [List.take_succ_eq_append_getElem h, List.map_append, List.sum_append]; simp
theorem sumR_take (R : List RF) (m : Nat) : sumR (R.take m) ≤ sumR R := by
 conv => rhs; rw [← List.take_append_drop m R]
 unfold sumR
 rw [List.map_append, List.sum_append]; omega
set_option maxHeartbeats 1000000 in
theorem rused_any (room plan : Int) (down : Bool) (v : Value) (R : List RF) (T : Nat → Prop) (w : World) (h : RLi w v R T) (hL : R.length ≤ 100000) (hs : sumR R ≤ 1000000000) :
   Calls Tryz.prog 52 #[rdisk room v plan down] w fun e w' => e = .returned (.int .i64 (sumR R)) ∧ Below w.heap.size w w' := by
 obtain ⟨la, lc, rfl⟩ := slice_form h.row
 have H := Lib.hid h
 clear h
 have HBX : Hid ((w.alloc (.cells #[.int .i64 room, .slice la R.length lc, .int .i64 plan, .bool down] 32)).heap[w.heap.size]? = some (.cells #[.int .i64 room, .slice la R.length lc, .int .i64 plan, .bool down] 32 (0, 0))) := heap_alloc_new w _
 have HBel : Hid (Below w.heap.size w (w.alloc (.cells #[.int .i64 room, .slice la R.length lc, .int .i64 plan, .bool down] 32))) := (Below.refl _ _).alloc (Nat.le_refl _) _
 go_enter Tryz.func52, Tryz.ntmps52
 go_wp2
 generalize w.alloc (.cells #[.int .i64 room, .slice la R.length lc, .int .i64 plan, .bool down] 32) = wd at *
 go_loop [3, 4] (fun s i => ∃ m : Nat, m ≤ R.length ∧ i = .int .i64 m ∧ s = .int .i64 (sumR (R.take m) : Nat)) (fun _ i => R.length - (RowKit.intOf i).toNat)
 case atStart => exact ⟨0, by omega, rfl, rfl⟩
 case round =>
   obtain ⟨m, hm, rfl, rfl⟩ := hrel
   have hx1 := (cells4 HBX.out).2.1
   by_cases hlt : m < R.length
   · obtain ⟨b, o, c, he, hcap, hb, hcell⟩ := (H.out.below HBel.out).cells (by omega)
     obtain ⟨rfl, rfl⟩ : la = some ⟨b, o, none⟩ ∧ lc = c := by cases he; exact ⟨rfl, rfl⟩
     have hc := (hcell m hlt).2.1
     have hsu := sumR_succ hlt
     have hls := sumR_take R (m + 1)
     clear hcell he
     generalize R[m].a = ra at *
     generalize R[m].c = rc at *
     generalize R[m].f.b.length = rl at *
     go_wp2
     go_round
     case rel => exact ⟨m + 1, by omega, by go_num, by rw [hsu]; go_num⟩
     case measure => simp [RowKit.intOf]; omega
   · obtain rfl : m = R.length := by omega
     go_wp2
     go_ret
     exact ⟨rfl, HBel.out⟩
def outR (R : List RF) (n : ByteArray) : List RF := R.filter fun r => decide (r.f.name ≠ n)
theorem outR_succ {R : List RF} {n : ByteArray} {m : Nat} (h : m < R.length) : outR (R.take (m + 1)) n = outR (R.take m) n ++ if R[m].f.name = n then [] else [R[m]] := by
 unfold outR
 rw [List.take_succ_eq_append_getElem h, List.filter_append]
 congr 1
 by_cases h1 : R[m].f.name = n
 · simp [h1]
 · simp [h1]
theorem outR_len (R : List RF) (n : ByteArray) : (outR R n).length ≤ R.length := List.length_filter_le _ _
theorem outR_mem {R : List RF} {n : ByteArray} {r : RF} (h : r ∈ outR R n) : r ∈ R := (List.mem_filter.1 h).1
set_option maxHeartbeats 1000000 in
theorem rwithout_any (v : Value) (R : List RF) (T : Nat → Prop) (n : ByteArray) (w : World) (h : RLi w v R T) (hL : R.length ≤ 100000) :
   Calls Tryz.prog 122 #[v, .string n] w fun e w' => ∃ v', e = .returned v' ∧ RLi w' v' (outR R n) (fun k => T k ∨ w.heap.size ≤ k) ∧ Below w.heap.size w w' := by
 obtain ⟨la, lc, rfl⟩ := slice_form h.row
 have H := Lib.hid h
 clear h
 go_enter Tryz.func122, Tryz.ntmps122
 go_wp2
 go_loopw [5, 6] (fun out i w' => ∃ m : Nat, m ≤ R.length ∧ i = .int .i64 m ∧ Hid (Row w' 120 3 out (outR (R.take m) n).length ((outR (R.take m) n).flatMap rcells) (fun k => w.heap.size ≤ k)) ∧ Hid (Below w.heap.size w w')) (fun _ i _ => R.length - (RowKit.intOf i).toNat)
 case atStart => exact ⟨0, by omega, rfl, Row.nil _ _ _ _, Below.refl _ _⟩
 case round =>
   obtain ⟨m, hm, rfl, HO, HB⟩ := hrel
   by_cases hlt : m < R.length
   · obtain ⟨b, o, c, he, hcap, hb, hcell⟩ := (H.out.below HB.out).cells (by omega)
     obtain ⟨rfl, rfl⟩ : la = some ⟨b, o, none⟩ ∧ lc = c := by cases he; exact ⟨rfl, rfl⟩
     obtain ⟨hc0, hc1, hc2⟩ := hcell m hlt
     have HS := Lib.hid (outR_succ (n := n) hlt)
     have HLL : Hid ((outR (R.take m) n).length ≤ 100000) := by
       have := outR_len (R.take m) n
       rw [List.length_take] at this
       show _ ≤ _
       omega
     by_cases hk : R[m].f.name = n
     · rw [if_pos hk, List.append_nil] at HS
       rw [hk] at hc0
       clear hcell he hk
       go_wp2
       go_roundw
       case rel => exact ⟨m + 1, by omega, by go_num, by rw [Hid, HS.out]; exact HO.out, HB⟩
       case measure => simp [RowKit.intOf]; omega
     · rw [if_neg hk] at HS
       obtain ⟨hne, hne2⟩ := str_ne hk
       have HCE : Hid (rcells R[m] = [.string R[m].f.name, .slice R[m].a R[m].f.b.length R[m].c, .int .i64 R[m].f.d]) := rfl
       have HFM : Hid ((outR (R.take m) n ++ [R[m]]).flatMap rcells = (outR (R.take m) n).flatMap rcells ++ [.string R[m].f.name, .slice R[m].a R[m].f.b.length R[m].c, .int .i64 R[m].f.d]) := by simp [Hid]
       have HLN : Hid ((outR (R.take m) n ++ [R[m]]).length = (outR (R.take m) n).length + 1) := by simp [Hid]
       rw [← HS.out] at HFM HLN
       clear hcell he hk HS HCE
       generalize R[m].f.name = key at *
       generalize R[m].a = ra at *
       generalize R[m].c = rc at *
       generalize R[m].f.b.length = rl at *
       generalize R[m].f.d = rd at *
       have hll := HLL.out
       obtain ⟨L, hL2⟩ : ∃ L, L = outR (R.take m) n := ⟨_, rfl⟩
       rw [← hL2] at HO HFM HLN hll
       have hbl := HB.out.size
       go_wp2_with (refine wpList_row elemR rfl rfl (S := fun k => w.heap.size ≤ k) (n := L.length) (xs := L.flatMap rcells) rfl (HO.out.frame (fun k _ hk => Below.heap_alloc _ _ _ hk)) (y := .slice (some ⟨wr.heap.size, 0, none⟩) 1 1) (m := 1) (news := [.string key, .slice ra rl rc, .int .i64 rd]) rfl (Reads.single (heap_alloc_new wr _)) (by intro u hu; simp only [List.mem_cons, List.not_mem_nil, or_false] at hu; rcases hu with rfl | rfl | rfl <;> rfl) (by unfold maxLen; omega) (by omega) ?_; intro v5 w5 hr5 hch5)
       go_roundw
       case rel =>
         refine ⟨m + 1, by omega, by go_num, ?_, (HB.out.alloc hbl _).trans (hch5.toBelow (by simp <;> omega) (fun n hn h => by omega))⟩
         rw [Hid, HFM.out, HLN.out]
         exact hr5.mono (fun k hk => by rcases hk with hk | hk; exact hk; simp only [World.size_alloc] at hk; omega)
       case measure => simp [RowKit.intOf]; omega
   · obtain rfl : m = R.length := by omega
     rw [List.take_length] at HO
     go_wp2
     go_ret
     exact ⟨_, rfl, ⟨HO.out.mono (fun k hk => .inr hk), fun r hr => ⟨((H.out.below HB.out).byt r (outR_mem hr)).1.mono (fun k hk => .inl hk), ((H.out.below HB.out).byt r (outR_mem hr)).2⟩⟩, HB.out⟩
theorem elemStr : ElemOf Tryz.prog 89 9 (.string ⟨#[]⟩) 1 16 := ⟨Tryz.underlying89, by kernel_rfl, rfl, by decide⟩
def namesR (R : List RF) : List Value := R.map fun r => .string r.f.name
theorem namesR_succ {R : List RF} {m : Nat} (h : m < R.length) : namesR (R.take (m + 1)) = namesR (R.take m) ++ [.string R[m].f.name] := by
 unfold namesR
 rw [List.take_succ_eq_append_getElem h, List.map_append]; rfl
set_option maxHeartbeats 1000000 in
theorem rnames_any (room plan : Int) (down : Bool) (v : Value) (R : List RF) (T : Nat → Prop) (w : World) (h : RLi w v R T) (hL : R.length ≤ 100000) :
   Calls Tryz.prog 50 #[rdisk room v plan down] w fun e w' => ∃ v', e = .returned v' ∧ Row w' 9 1 v' R.length (namesR R) (fun k => w.heap.size ≤ k) ∧ Below w.heap.size w w' := by
 obtain ⟨la, lc, rfl⟩ := slice_form h.row
 have H := Lib.hid h
 clear h
 have HBX : Hid ((w.alloc (.cells #[.int .i64 room, .slice la R.length lc, .int .i64 plan, .bool down] 32)).heap[w.heap.size]? = some (.cells #[.int .i64 room, .slice la R.length lc, .int .i64 plan, .bool down] 32 (0, 0))) := heap_alloc_new w _
 have HBel : Hid (Below w.heap.size w (w.alloc (.cells #[.int .i64 room, .slice la R.length lc, .int .i64 plan, .bool down] 32))) := (Below.refl _ _).alloc (Nat.le_refl _) _
 have HSZ : Hid ((w.alloc (.cells #[.int .i64 room, .slice la R.length lc, .int .i64 plan, .bool down] 32)).heap.size = w.heap.size + 1) := World.size_alloc _ _
 go_enter Tryz.func50, Tryz.ntmps50
 go_wp2
 generalize w.alloc (.cells #[.int .i64 room, .slice la R.length lc, .int .i64 plan, .bool down] 32) = wd at *
 go_loopw [3, 4] (fun out i w' => ∃ m : Nat, m ≤ R.length ∧ i = .int .i64 m ∧ Hid (Row w' 9 1 out m (namesR (R.take m)) (fun k => wd.heap.size ≤ k)) ∧ Hid (Below wd.heap.size wd w')) (fun _ i _ => R.length - (RowKit.intOf i).toNat)
 case atStart => exact ⟨0, by omega, rfl, Row.nil _ _ _ _, Below.refl _ _⟩
 case round =>
   obtain ⟨m, hm, rfl, HO, HB⟩ := hrel
   have HBL := Lib.hid (HBel.out.trans (HB.out.mono (B' := w.heap.size) (by rw [HSZ.out]; omega)))
   have HBX2 := Lib.hid ((HB.out.block _ (lt_of_heap HBX.out)).trans HBX.out)
   have hx1 := (cells4 HBX2.out).2.1
   by_cases hlt : m < R.length
   · obtain ⟨b, o, c, he, hcap, hb, hcell⟩ := (H.out.below HBL.out).cells (by omega)
     obtain ⟨rfl, rfl⟩ : la = some ⟨b, o, none⟩ ∧ lc = c := by cases he; exact ⟨rfl, rfl⟩
     have hc0 := (hcell m hlt).1
     have HS := Lib.hid (namesR_succ hlt)
     clear hcell he
     generalize R[m].f.name = key at *
     have hbl := HB.out.size
     go_wp2_with (refine wpList_row elemStr rfl rfl (S := fun k => wd.heap.size ≤ k) (n := m) (xs := namesR (R.take m)) rfl (HO.out.frame (fun k _ hk => Below.heap_alloc _ _ _ hk)) (y := .slice (some ⟨wr.heap.size, 0, none⟩) 1 1) (m := 1) (news := [.string key]) rfl (reads_one wr _ _) (one_of rfl) (by unfold maxLen; omega) (by omega) ?_; intro v5 w5 hr5 hch5)
     go_roundw
     case rel =>
       refine ⟨m + 1, by omega, by go_num, ?_, (HB.out.alloc hbl _).trans (hch5.toBelow (by simp <;> omega) (fun n hn h => by omega))⟩
       rw [Hid, HS.out]
       exact hr5.mono (fun k hk => by rcases hk with hk | hk; exact hk; simp only [World.size_alloc] at hk; omega)
     case measure => simp [RowKit.intOf]; omega
   · obtain rfl : m = R.length := by omega
     rw [List.take_length] at HO
     have hsz := HSZ.out
     go_wp2
     go_ret
     exact ⟨_, rfl, HO.out.mono (fun k hk => by omega), HBL.out⟩
theorem findD_hit {R : List RF} {n : ByteArray} {m : Nat} (hm : m < R.length) (h : R[m].f.name = n) (hl : ∀ j (hj : j < m), (R[j]'(by omega)).f.name ≠ n) : findD (R.map RF.f) n = some R[m].f := by
 induction R generalizing m with
 | nil => simp at hm
 | cons r l ih =>
   rw [List.map_cons, findD]
   cases m with
   | zero => simp only [List.getElem_cons_zero] at h; rw [if_pos h]; rfl
   | succ m =>
     have h0 := hl 0 (by omega)
     simp only [List.getElem_cons_zero] at h0
     rw [if_neg h0]
     exact ih (m := m) (by simpa using hm) (by simpa using h) (fun j hj => by have := hl (j + 1) (by omega); rwa [List.getElem_cons_succ] at this)
theorem findD_miss {R : List RF} {n : ByteArray} (hl : ∀ j (hj : j < R.length), R[j].f.name ≠ n) : findD (R.map RF.f) n = none := by
 rw [findD_none]
 intro h
 rw [List.map_map] at h
 obtain ⟨r, hr, he⟩ := List.mem_map.1 h
 obtain ⟨j, hj, rfl⟩ := List.mem_iff_getElem.1 hr
 exact hl j hj he
theorem first_name (R : List RF) (n : ByteArray) : (∀ j (hj : j < R.length), R[j].f.name ≠ n) ∨ ∃ (i : Nat) (hi : i < R.length), R[i].f.name = n ∧ ∀ j (hj : j < i), (R[j]'(by omega)).f.name ≠ n := by
 rcases first_hit R (fun r => decide (r.f.name = n)) with h | ⟨i, hi, h1, h2⟩
 · exact .inl (fun j hj => by simpa using h R[j] (List.getElem_mem hj))
 · exact .inr ⟨i, hi, by simpa using h1, fun j hj => by simpa using h2 j hj⟩
end Go.Proofs.YtgdmdbdljmlkkaaGreatDoor
