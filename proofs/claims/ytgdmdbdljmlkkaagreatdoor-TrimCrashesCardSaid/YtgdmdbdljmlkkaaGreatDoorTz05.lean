/- Disk -/
import Derived.Test.YtgdmdbdljmlkkaaGreatDoorTz04
import Derived.Test.YtgdmdbdljmlkkaaGreatDoorChecked
set_option linter.unusedVariables false
set_option linter.unusedSimpArgs false
namespace Go.Proofs.YtgdmdbdljmlkkaaGreatDoor
open Go.RowKit
structure DF where
 name : ByteArray
 b : List UInt8
 d : Nat
structure DS where
 room : Int
 files : List DF
 plan : Int
 down : Bool
def u8v (c : UInt8) : Value := .int .u8 c.toNat
def byts (l : List UInt8) : List Value := l.map u8v
theorem byts_one (l : List UInt8) : ∀ u ∈ byts l, u.oneCell' = true := by
 intro u hu
 obtain ⟨c, _, rfl⟩ := List.mem_map.1 hu
 rfl
theorem byts_append (a b : List UInt8) : byts (a ++ b) = byts a ++ byts b := List.map_append ..
theorem byts_length (a : List UInt8) : (byts a).length = a.length := List.length_map ..
def findD : List DF → ByteArray → Option DF
 | [], _ => none
 | f :: l, n => if f.name = n then some f else findD l n
def setD : List DF → ByteArray → List UInt8 → Nat → List DF
 | [], _, _, _ => []
 | f :: l, n, b, d => (if f.name = n then ⟨n, b, d⟩ else f) :: setD l n b d
def dropD : List DF → ByteArray → List DF
 | [], _ => []
 | f :: l, n => if f.name = n then dropD l n else f :: dropD l n
theorem findD_name {l : List DF} {n : ByteArray} {f : DF} (h : findD l n = some f) : f.name = n ∧ f ∈ l := by
 induction l with
 | nil => cases h
 | cons a l ih =>
   rw [findD] at h
   split at h
   · cases h; exact ⟨by assumption, by simp⟩
   · exact ⟨(ih h).1, by simp [(ih h).2]⟩
theorem findD_mem {l : List DF} (hn : (l.map DF.name).Nodup) {f : DF} (h : f ∈ l) : findD l f.name = some f := by
 induction l with
 | nil => cases h
 | cons a l ih =>
   rw [findD]
   rw [List.map_cons, List.nodup_cons] at hn
   rcases List.mem_cons.1 h with rfl | h
   · rw [if_pos rfl]
   · rw [if_neg (fun e => hn.1 (by rw [e]; exact List.mem_map.2 ⟨f, h, rfl⟩))]
     exact ih hn.2 h
theorem findD_none {l : List DF} {n : ByteArray} : findD l n = none ↔ n ∉ l.map DF.name := by
 induction l with
 | nil => simp [findD]
 | cons a l ih =>
   rw [findD, List.map_cons, List.mem_cons, not_or]
   split
   · rename_i h; simp [h]
   · rename_i h; rw [ih]; exact ⟨fun h2 => ⟨fun e => h e.symm, h2⟩, fun h2 => h2.2⟩
theorem findD_setD (l : List DF) (n : ByteArray) (b : List UInt8) (d : Nat) (x : ByteArray) : findD (setD l n b d) x = (findD l x).map (fun f => if f.name = n then ⟨n, b, d⟩ else f) := by
 induction l with
 | nil => rfl
 | cons a l ih =>
   simp only [setD, findD]
   by_cases h : a.name = n
   · simp only [if_pos h]
     by_cases hx : a.name = x
     · rw [if_pos (h.symm.trans hx), if_pos hx]; simp [h]
     · rw [if_neg (fun e => hx (h.trans e)), if_neg hx]; exact ih
   · simp only [if_neg h]
     by_cases hx : a.name = x
     · rw [if_pos hx, if_pos hx]; simp [h]
     · rw [if_neg hx, if_neg hx]; exact ih
theorem setD_names (l : List DF) (n : ByteArray) (b : List UInt8) (d : Nat) : (setD l n b d).map DF.name = l.map DF.name := by
 induction l with
 | nil => rfl
 | cons a l ih =>
   simp only [setD, List.map_cons, ih]
   split
   · rename_i h; rw [h]
   · rfl
theorem setD_mem {l : List DF} {n : ByteArray} {b : List UInt8} {d : Nat} {f : DF} (h : f ∈ setD l n b d) : (f = ⟨n, b, d⟩ ∧ n ∈ l.map DF.name) ∨ (f ∈ l ∧ f.name ≠ n) := by
 induction l with
 | nil => cases h
 | cons a l ih =>
   rw [setD] at h
   rcases List.mem_cons.1 h with h | h
   · split at h
     · rename_i h1; exact .inl ⟨h, by simp [h1]⟩
     · rename_i h1; exact .inr ⟨by simp [h], by rw [h]; exact h1⟩
   · rcases ih h with ⟨h1, h2⟩ | ⟨h1, h2⟩
     · exact .inl ⟨h1, by simp only [List.map_cons, List.mem_cons]; exact .inr h2⟩
     · exact .inr ⟨by simp [h1], h2⟩
theorem dropD_mem {l : List DF} {n : ByteArray} {f : DF} : f ∈ dropD l n ↔ f ∈ l ∧ f.name ≠ n := by
 induction l with
 | nil => simp [dropD]
 | cons a l ih =>
   rw [dropD]
   split
   · rename_i h
     rw [ih, List.mem_cons]
     exact ⟨fun h1 => ⟨.inr h1.1, h1.2⟩, fun h1 => ⟨h1.1.resolve_left (fun e => h1.2 (e ▸ h)), h1.2⟩⟩
   · rename_i h
     rw [List.mem_cons, ih, List.mem_cons]
     constructor
     · rintro (rfl | h1)
       · exact ⟨.inl rfl, h⟩
       · exact ⟨.inr h1.1, h1.2⟩
     · rintro ⟨rfl | h1, h2⟩
       · exact .inl rfl
       · exact .inr ⟨h1, h2⟩
theorem findD_dropD (l : List DF) (n x : ByteArray) : findD (dropD l n) x = if x = n then none else findD l x := by
 induction l with
 | nil => simp [dropD, findD]
 | cons a l ih =>
   rw [dropD]
   split
   · rename_i h
     rw [ih, findD]
     by_cases hx : x = n
     · rw [if_pos hx, if_pos hx]
     · rw [if_neg hx, if_neg hx, if_neg (fun e => hx (by rw [← e, h]))]
   · rename_i h
     rw [findD, ih, findD]
     by_cases hx : a.name = x
     · rw [if_pos hx, if_pos hx, if_neg (fun e => h (hx.trans e))]
     · rw [if_neg hx, if_neg hx]
theorem dropD_sub (l : List DF) (n : ByteArray) : (dropD l n).Sublist l := by
 induction l with
 | nil => exact List.Sublist.refl _
 | cons a l ih =>
   rw [dropD]
   split
   · exact ih.cons _
   · exact ih.cons_cons _
def FRep (w : World) (bf : Nat) (b : List UInt8) (d : Nat) (S : Nat → Prop) : Prop :=
 ∃ a c T, w.heap[bf]? = some (.cells #[.slice a b.length c, .int .i64 d] 118 (0, 0)) ∧ Row w 5 1 (.slice a b.length c) b.length (byts b) T ∧ S bf ∧ ¬ T bf ∧ (∀ k, T k → S k) ∧ d ≤ b.length ∧ b.length ≤ maxLen
theorem FRep.frame {w w' : World} {bf : Nat} {b : List UInt8} {d : Nat} {S : Nat → Prop} (h : FRep w bf b d S) (hb : ∀ k, S k → k < w.heap.size → w'.heap[k]? = w.heap[k]?) : FRep w' bf b d S := by
 obtain ⟨a, c, T, h1, h2, h3, h4, h5, h6⟩ := h
 exact ⟨a, c, T, (hb bf h3 (lt_of_heap h1)).trans h1, h2.frame (fun k hk => hb k (h5 k hk)), h3, h4, h5, h6⟩
theorem FRep.mono {w : World} {bf : Nat} {b : List UInt8} {d : Nat} {S T : Nat → Prop} (h : FRep w bf b d S) (hS : ∀ k, S k → k < w.heap.size → T k) : FRep w bf b d T := by
 obtain ⟨a, c, R, h1, h2, h3, h4, h5, h6⟩ := h
 refine ⟨a, c, fun k => R k ∧ k < w.heap.size, h1, ⟨h2.1, ?_⟩, hS _ h3 (lt_of_heap h1), fun h => h4 h.1, fun k hk => hS k (h5 k hk.1) hk.2, h6⟩
 rcases h2.2 with h | ⟨g, off, cap, cur, hv, hg, hh, r⟩
 · exact .inl h
 · exact .inr ⟨g, off, cap, cur, hv, ⟨hg, lt_of_heap hh⟩, hh, r⟩
def fmap (l : List DF) (pv : ByteArray → Nat) : ByteArray → Option Value := fun n => (findD l n).map fun _ => .pointer (some ⟨pv n, 0, none⟩)
structure DAt (w : World) (D : DS) (S : Nat → Prop) (bx bm : Nat) (col : Nat → Option ByteArray) (pv : ByteArray → Nat) : Prop where
 blk : w.heap[bx]? = some (.cells #[.int .i64 D.room, .map (some bm), .int .i64 D.plan, .bool D.down] 115 (0, 0))
 mp : MapFn w Value.string bm (fmap D.files pv)
 fl : ∀ f ∈ D.files, FRep w (pv f.name) f.b f.d (fun k => S k ∧ col k = some f.name)
 nd : (D.files.map DF.name).Nodup
 sx : S bx ∧ S bm
 cx : col bx = none ∧ col bm = none
 ne : bx ≠ bm
section
variable {w w' : World} {D : DS} {S : Nat → Prop} {bx bm : Nat} {col : Nat → Option ByteArray} {pv : ByteArray → Nat}
theorem DAt.frame (h : DAt w D S bx bm col pv) (hb : ∀ k, S k → k < w.heap.size → w'.heap[k]? = w.heap[k]?) : DAt w' D S bx bm col pv where
 blk := (hb bx h.sx.1 (lt_of_heap h.blk)).trans h.blk
 mp := h.mp.frame (hb bm h.sx.2 h.mp.lt)
 fl := fun f hf => (h.fl f hf).frame (fun k hk => hb k hk.1)
 nd := h.nd
 sx := h.sx
 cx := h.cx
 ne := h.ne
theorem DAt.head (h : DAt w D S bx bm col pv) (D' : DS) (hf : D'.files = D.files) (hb : w'.heap[bx]? = some (.cells #[.int .i64 D'.room, .map (some bm), .int .i64 D'.plan, .bool D'.down] 115 (0, 0)))
   (hc : Chg (fun k => k = bx) w w') : DAt w' D' S bx bm col pv where
 blk := hb
 mp := by rw [hf]; exact h.mp.frame (hc.block bm h.mp.lt (fun e => h.ne e.symm))
 fl := by
   rw [hf]
   exact fun f hm => (h.fl f hm).frame (fun k hk hl => hc.block k hl (fun e => by subst e; have := hk.2; rw [h.cx.1] at this; cases this))
 nd := by rw [hf]; exact h.nd
 sx := h.sx
 cx := h.cx
 ne := h.ne
theorem DAt.set (h : DAt w D S bx bm col pv) {n : ByteArray} {b : List UInt8} {d : Nat} (hch : Chg (fun k => S k ∧ col k = some n) w w') (hfr : FRep w' (pv n) b d (fun k => (S k ∧ col k = some n) ∨ w.heap.size ≤ k)) :
   DAt w' { D with files := setD D.files n b d } (fun k => S k ∨ w.heap.size ≤ k) bx bm (fun k => if k < w.heap.size then col k else some n) pv where
 blk := (hch.block bx (lt_of_heap h.blk) (fun e => by rw [h.cx.1] at e; cases e.2)).trans h.blk
 mp := by
   have e : fmap (setD D.files n b d) pv = fmap D.files pv := by
     funext x
     unfold fmap
     rw [findD_setD, Option.map_map]
     rfl
   rw [e]
   exact h.mp.frame (hch.block bm h.mp.lt (fun e => by rw [h.cx.2] at e; cases e.2))
 fl := by
   intro f hf
   rcases setD_mem hf with ⟨rfl, -⟩ | ⟨h1, h2⟩
   · exact hfr.mono (fun k hk hl => by
       rcases hk with hk | hk
       · refine ⟨.inl hk.1, ?_⟩
         split
         · exact hk.2
         · rfl
       · exact ⟨.inr hk, if_neg (by omega)⟩)
   · exact ((h.fl f h1).mono (T := fun k => (S k ∧ col k = some f.name) ∧ k < w.heap.size) (fun k hk hl => ⟨hk, hl⟩)).frame (fun k hk hl => hch.block k hl (fun e => by rw [hk.1.2] at e; exact h2 (Option.some.inj e.2)))
       |>.mono (fun k hk hl => ⟨.inl hk.1.1, by rw [if_pos hk.2]; exact hk.1.2⟩)
 nd := by rw [setD_names]; exact h.nd
 sx := ⟨.inl h.sx.1, .inl h.sx.2⟩
 cx := ⟨by rw [if_pos (lt_of_heap h.blk)]; exact h.cx.1, by rw [if_pos h.mp.lt]; exact h.cx.2⟩
 ne := h.ne
theorem DAt.add (h : DAt w D S bx bm col pv) {n : ByteArray} {w1 : World} {bf : Nat} (hn : findD D.files n = none) (hb : Below w.heap.size w w1) (hbf : w.heap.size ≤ bf) (hfr : FRep w1 bf [] 0 (fun k => w.heap.size ≤ k))
   (hm : MapFn w' Value.string bm (fun x => if x = n then some (.pointer (some ⟨bf, 0, none⟩)) else fmap D.files pv x)) (hch : Chg (fun k => k = bm) w1 w') :
   DAt w' { D with files := ⟨n, [], 0⟩ :: D.files } (fun k => S k ∨ w.heap.size ≤ k) bx bm (fun k => if k < w.heap.size then col k else some n) (fun x => if x = n then bf else pv x) where
 blk := (hch.block bx (Nat.lt_of_lt_of_le (lt_of_heap h.blk) hb.size) h.ne).trans ((hb.block bx (lt_of_heap h.blk)).trans h.blk)
 mp := by
   refine cast (congrArg _ ?_) hm
   funext x
   unfold fmap
   rw [findD]
   by_cases hx : x = n
   · subst hx; simp
   · have hx' : ¬ n = x := fun e => hx e.symm
     simp only [if_neg hx, if_neg hx']
 fl := by
   intro f hf
   have hbm := h.mp.lt
   rcases List.mem_cons.1 hf with rfl | hf
   · simp only [if_true]
     refine (hfr.frame (fun k hk hl => hch.block k hl (fun e => by subst e; omega))).mono (fun k hk hl => ⟨.inr hk, if_neg (by omega)⟩)
   · have hne : f.name ≠ n := fun e => findD_none.1 hn (by rw [← e]; exact List.mem_map.2 ⟨f, hf, rfl⟩)
     simp only [if_neg hne]
     exact ((h.fl f hf).mono (T := fun k => (S k ∧ col k = some f.name) ∧ k < w.heap.size) (fun k hk hl => ⟨hk, hl⟩)).frame (fun k hk hl => (hch.block k (Nat.lt_of_lt_of_le hl hb.size) (fun e => by subst e; rw [h.cx.2] at hk; cases hk.1.2)).trans (hb.block k hl))
       |>.mono (fun k hk hl => ⟨.inl hk.1.1, by rw [if_pos hk.2]; exact hk.1.2⟩)
 nd := by
   rw [List.map_cons, List.nodup_cons]
   exact ⟨findD_none.1 hn, h.nd⟩
 sx := ⟨.inl h.sx.1, .inl h.sx.2⟩
 cx := ⟨by rw [if_pos (lt_of_heap h.blk)]; exact h.cx.1, by rw [if_pos h.mp.lt]; exact h.cx.2⟩
 ne := h.ne
theorem DAt.del (h : DAt w D S bx bm col pv) {n : ByteArray} (hm : MapFn w' Value.string bm (fun x => if x = n then none else fmap D.files pv x)) (hch : Chg (fun k => k = bm) w w') :
   DAt w' { D with files := dropD D.files n } S bx bm col pv where
 blk := (hch.block bx (lt_of_heap h.blk) h.ne).trans h.blk
 mp := by
   refine cast (congrArg _ ?_) hm
   funext x
   unfold fmap
   rw [findD_dropD]
   by_cases hx : x = n
   · rw [if_pos hx, if_pos hx]; rfl
   · rw [if_neg hx, if_neg hx]
 fl := fun f hf => (h.fl f (dropD_mem.1 hf).1).frame (fun k hk hl => hch.block k hl (fun e => by subst e; rw [h.cx.2] at hk; cases hk.2))
 nd := ((dropD_sub _ _).map DF.name).nodup h.nd
 sx := h.sx
 cx := h.cx
 ne := h.ne
theorem DAt.ren (h : DAt w D S bx bm col pv) {n to : ByteArray} {f : DF} (hf : findD D.files n = some f)
   (hm : MapFn w' Value.string bm (fun x => if x = to then some (.pointer (some ⟨pv n, 0, none⟩)) else if x = n then none else fmap D.files pv x)) (hch : Chg (fun k => k = bm) w w') :
   DAt w' { D with files := ⟨to, f.b, f.d⟩ :: dropD (dropD D.files n) to } S bx bm (fun k => if col k = some n then some to else col k) (fun x => if x = to then pv n else pv x) where
 blk := (hch.block bx (lt_of_heap h.blk) h.ne).trans h.blk
 mp := by
   refine cast (congrArg _ ?_) hm
   funext x
   unfold fmap
   simp only [findD, findD_dropD]
   by_cases hx : x = to
   · subst hx; simp
   · have hx' : ¬ to = x := fun e => hx e.symm
     simp only [if_neg hx, if_neg hx']
     by_cases hn : x = n
     · simp only [if_pos hn]; rfl
     · simp only [if_neg hn]
 fl := by
   intro g hg
   obtain ⟨hfn, hfm⟩ := findD_name hf
   rcases List.mem_cons.1 hg with rfl | hg
   · simp only [if_true]
     have := h.fl f hfm
     rw [hfn] at this
     exact (this.frame (fun k hk hl => hch.block k hl (fun e => by subst e; rw [h.cx.2] at hk; cases hk.2))).mono (fun k hk hl => ⟨hk.1, if_pos hk.2⟩)
   · have h1 := dropD_mem.1 hg
     have h2 := dropD_mem.1 h1.1
     simp only [if_neg h1.2]
     exact ((h.fl g h2.1).frame (fun k hk hl => hch.block k hl (fun e => by subst e; rw [h.cx.2] at hk; cases hk.2))).mono (fun k hk hl => ⟨hk.1, by rw [if_neg (fun e => h2.2 (Option.some.inj (hk.2.symm.trans e)))]; exact hk.2⟩)
 nd := by
   rw [List.map_cons, List.nodup_cons]
   refine ⟨fun hm => ?_, ((dropD_sub _ _).trans (dropD_sub _ _) |>.map DF.name).nodup h.nd⟩
   obtain ⟨g, hg, he⟩ := List.mem_map.1 hm
   exact (dropD_mem.1 hg).2 he
 sx := h.sx
 cx := ⟨by rw [if_neg (by rw [h.cx.1]; exact fun e => by cases e)]; exact h.cx.1, by rw [if_neg (by rw [h.cx.2]; exact fun e => by cases e)]; exact h.cx.2⟩
 ne := h.ne
end
def DRep (w : World) (x : Value) (D : DS) (S : Nat → Prop) : Prop :=
 ∃ bx bm col pv, x = .pointer (some ⟨bx, 0, none⟩) ∧ DAt w D S bx bm col pv
theorem DRep.frame {w w' : World} {x : Value} {D : DS} {S : Nat → Prop} (h : DRep w x D S) (hb : ∀ k, S k → k < w.heap.size → w'.heap[k]? = w.heap[k]?) : DRep w' x D S := by
 obtain ⟨bx, bm, col, pv, h1, h2⟩ := h
 exact ⟨bx, bm, col, pv, h1, h2.frame hb⟩
end Go.Proofs.YtgdmdbdljmlkkaaGreatDoor
