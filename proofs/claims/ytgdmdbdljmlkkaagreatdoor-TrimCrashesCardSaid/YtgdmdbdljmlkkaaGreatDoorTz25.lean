/- FindC -/
import Derived.Test.YtgdmdbdljmlkkaaGreatDoorTz24
set_option linter.unusedVariables false
set_option linter.unusedSimpArgs false
namespace Go.Proofs.YtgdmdbdljmlkkaaGreatDoor
open Go.RowKit
def markedB (b : List UInt8) : Bool := match nextB b with
 | some (x, _) => decide (x = [])
 | none => false
def markK (g : Int → List UInt8) (L : List Int) : Nat → Nat
 | 0 => 0
 | i + 1 => if markedB (g (L.getD (i + 1) 0)) then i + 1 else markK g L i
theorem markK_le (g : Int → List UInt8) (L : List Int) : ∀ i, markK g L i ≤ i
 | 0 => Nat.le_refl _
 | i + 1 => by
   rw [markK]
   split
   · exact Nat.le_refl _
   · exact Nat.le_succ_of_le (markK_le g L i)
def fullL (X : List (List UInt8)) : List (List UInt8) := X.filter fun x => decide (x ≠ [])
def empAt (i : Nat) (X : List (List UInt8)) (m : Nat) : Bool := (List.range m).all fun j => decide (X.getD j [] ≠ [] ∨ i + j = 0)
theorem empAt_succ (i : Nat) (X : List (List UInt8)) (m : Nat) : empAt i X (m + 1) = (empAt i X m && decide (X.getD m [] ≠ [] ∨ i + m = 0)) := by
 unfold empAt; rw [List.range_succ, List.all_append]; simp
def chainAt (R : List Int) (i : Nat) : Bool := decide (i = 0 ∨ R.getD (i - 1) 0 + 1 = R.getD i 0)
def restAt (g : Int → List UInt8) (R : List Int) (i : Nat) : Bool :=
 decide ((splitB (g (R.getD i 0))).2 = (g (R.getD i 0)).length ∨ i + 1 = R.length) && empAt i (splitB (g (R.getD i 0))).1 (splitB (g (R.getD i 0))).1.length
def chainUp (R : List Int) (m : Nat) : Bool := (List.range m).all (chainAt R)
def restUp (g : Int → List UInt8) (R : List Int) (m : Nat) : Bool := (List.range m).all (restAt g R)
theorem chainUp_succ (R : List Int) (m : Nat) : chainUp R (m + 1) = (chainUp R m && chainAt R m) := by
 unfold chainUp; rw [List.range_succ, List.all_append]; simp
theorem restUp_succ (g : Int → List UInt8) (R : List Int) (m : Nat) : restUp g R (m + 1) = (restUp g R m && restAt g R m) := by
 unfold restUp; rw [List.range_succ, List.all_append]; simp
theorem chainUp_false {R : List Int} {m n : Nat} (h : chainUp R m = false) (hmn : m ≤ n) : chainUp R n = false := by
 induction n with
 | zero => obtain rfl : m = 0 := by omega
           exact h
 | succ n ih =>
   rw [chainUp_succ]
   rcases Nat.lt_or_ge n m with hm | hm
   · obtain rfl : m = n + 1 := by omega
     rw [← chainUp_succ]; exact h
   · rw [ih hm]; rfl
theorem restUp_false {g : Int → List UInt8} {R : List Int} {m n : Nat} (h : restUp g R m = false) (hmn : m ≤ n) : restUp g R n = false := by
 induction n with
 | zero => obtain rfl : m = 0 := by omega
           exact h
 | succ n ih =>
   rw [restUp_succ]
   rcases Nat.lt_or_ge n m with hm | hm
   · obtain rfl : m = n + 1 := by omega
     rw [← restUp_succ]; exact h
   · rw [ih hm]; rfl
def recsG (g : Int → List UInt8) (R : List Int) : List (List UInt8) := R.flatMap fun n => fullL (splitB (g n)).1
structure FR where
 code : Int
 older : List Int
 last : Int
 recs : List (List UInt8)
 front : List UInt8
 torn : Nat
def FR.bad (c : Int) : FR := ⟨c, [], 0, [], [], 0⟩
def lastN (L : List Int) : Int := L.getD (L.length - 1) 0
def findG (g : Int → List UInt8) (L : List Int) : FR :=
 if L = [] then FR.bad 0
 else if (chainUp (L.drop (markK g L (L.length - 1))) (L.length - markK g L (L.length - 1)) && restUp g (L.drop (markK g L (L.length - 1))) (L.length - markK g L (L.length - 1))) then
   ⟨0, L.take (markK g L (L.length - 1)), lastN L, recsG g (L.drop (markK g L (L.length - 1))), (g (lastN L)).take (splitB (g (lastN L))).2, (g (lastN L)).length - (splitB (g (lastN L))).2⟩
 else FR.bad 11
def contD (D : DS) (n : Int) : List UInt8 := (readD D (nameI n)).1
def segsD (D : DS) : List Int := refL (D.files.map DF.name)
def findS (D : DS) : FR := if D.down then FR.bad 10 else findG (contD D) (segsD D)
theorem inc_segs (D : DS) : Inc (segsD D) := inc_refL _
theorem rel_cont {D F : DS} (h : Rel D F) : contD D = contD F := funext fun n => by unfold contD; rw [rel_read h]
theorem rel_segsD {D F : DS} (h : Rel D F) : segsD D = segsD F := refL_same (rel_names_mem h)
theorem rel_find {D F : DS} (h : Rel D F) : findS D = findS F := by
 unfold findS; rw [h.down, rel_cont h, rel_segsD h]
structure OP where
 k : Nat
 n : ByteArray
 t : ByteArray
 b : List UInt8
abbrev DoT := DS → OP → DS × Int
def doP : DoT := fun D o => if o.k = 1 then createD D o.n else if o.k = 2 then appendD D o.n o.b else if o.k = 3 then syncD D o.n else if o.k = 4 then renameD D o.n o.t else removeD D o.n
def kN (k : Nat) : Nat := if 1 ≤ k ∧ k ≤ 4 then k else 5
def doR : DoT := fun F o => doF (kN o.k) F o.n o.t o.b
theorem rel_do {D F : DS} (h : Rel D F) (o : OP) : (doP D o).2 = (doR F o).2 ∧ Rel (doP D o).1 (doR F o).1 := by
 unfold doP doR
 by_cases h1 : o.k = 1
 · rw [if_pos h1, h1]; exact rel_create h _ _ _
 · by_cases h2 : o.k = 2
   · rw [if_neg h1, if_pos h2, h2]; exact rel_append h _ _ _
   · by_cases h3 : o.k = 3
     · rw [if_neg h1, if_neg h2, if_pos h3, h3]; exact rel_sync h _ _ _
     · by_cases h4 : o.k = 4
       · rw [if_neg h1, if_neg h2, if_neg h3, if_pos h4, h4]; exact rel_rename h _ _ _
       · have h5 : kN o.k = 5 := by unfold kN; rw [if_neg (by omega)]
         rw [if_neg h1, if_neg h2, if_neg h3, if_neg h4, h5]; exact rel_remove h _ _ _
def seqG (r : DS × Int) (k : DS → DS × Int) : DS × Int := if r.2 ≠ 0 then r else k r.1
def stepsG (O : DoT) (D : DS) : List OP → DS × Int
 | [] => (D, 0)
 | o :: l => seqG (O D o) fun D => stepsG O D l
theorem seqG_ret (r : DS × Int) : seqG r (fun D => (D, 0)) = r := by
 unfold seqG
 by_cases h : r.2 = 0
 · simp only [h, ne_eq, not_true_eq_false, if_false]; rw [← h]
 · simp only [ne_eq, h, not_false_eq_true, if_true]
theorem steps_one (O : DoT) (D : DS) (o : OP) : stepsG O D [o] = O D o := seqG_ret _
theorem seqG_assoc (r : DS × Int) (k j : DS → DS × Int) : seqG (seqG r k) j = seqG r fun D => seqG (k D) j := by
 unfold seqG
 by_cases h : r.2 = 0
 · simp [h]
 · simp [h]
theorem stepsG_append (O : DoT) (a b : List OP) : ∀ D, stepsG O D (a ++ b) = seqG (stepsG O D a) fun D => stepsG O D b := by
 induction a with
 | nil => intro D; simp [stepsG, seqG]
 | cons o l ih =>
   intro D
   rw [List.cons_append, stepsG, stepsG, seqG_assoc]
   congr 1
   funext D1
   exact ih D1
theorem rel_seq {r r' : DS × Int} {k k' : DS → DS × Int} (h : r.2 = r'.2 ∧ Rel r.1 r'.1) (hk : ∀ D F, Rel D F → (k D).2 = (k' F).2 ∧ Rel (k D).1 (k' F).1) : (seqG r k).2 = (seqG r' k').2 ∧ Rel (seqG r k).1 (seqG r' k').1 := by
 unfold seqG
 rw [h.1]
 by_cases h0 : r'.2 = 0
 · simp only [h0, ne_eq, not_true_eq_false, if_false]; exact hk _ _ h.2
 · simp only [ne_eq, h0, not_false_eq_true, if_true]; exact h
theorem rel_steps (l : List OP) : ∀ {D F : DS}, Rel D F → (stepsG doP D l).2 = (stepsG doR F l).2 ∧ Rel (stepsG doP D l).1 (stepsG doR F l).1 := by
 induction l with
 | nil => intro D F h; exact ⟨rfl, h⟩
 | cons o l ih => intro D F h; exact rel_seq (rel_do h o) (fun D F h => ih h)
def wipeG (O : DoT) (D : DS) : List ByteArray → DS × Int
 | [] => (D, 0)
 | n :: l => if (readD D n).2 ≠ 0 then wipeG O D l else seqG (O D ⟨5, n, ⟨#[]⟩, []⟩) fun D => wipeG O D l
def cutNm : ByteArray := ⟨#[99, 117, 116]⟩
def newNm : ByteArray := ⟨#[110, 101, 119]⟩
def cutOps (last : Int) (front : List UInt8) : List OP := [⟨1, cutNm, ⟨#[]⟩, []⟩, ⟨2, cutNm, ⟨#[]⟩, front⟩, ⟨3, cutNm, ⟨#[]⟩, []⟩, ⟨4, cutNm, nameI last, []⟩]
def repairG (O : DoT) (f : FR) (D : DS) : DS × Int := if f.torn = 0 then (D, 0) else stepsG O D (cutOps f.last f.front)
def trimG (O : DoT) (f : FR) (D : DS) : DS × Int := wipeG O D (f.older.map nameI)
def endG (O : DoT) (f : FR) (D : DS) : DS × Int :=
 if f.last = 0 then O D ⟨1, nameI (max f.last 1), ⟨#[]⟩, []⟩
 else seqG (repairG O f D) fun D => seqG (trimG O f D) fun D => O D ⟨3, nameI (max f.last 1), ⟨#[]⟩, []⟩
def openG (O : DoT) (f : FR) (D : DS) : DS × Int := if f.code ≠ 0 then (D, f.code) else seqG (wipeG O D [cutNm, newNm]) (endG O f)
def openS (O : DoT) (D : DS) : DS × Int := openG O (findS D) D
theorem rel_wipe (l : List ByteArray) : ∀ {D F : DS}, Rel D F → (wipeG doP D l).2 = (wipeG doR F l).2 ∧ Rel (wipeG doP D l).1 (wipeG doR F l).1 := by
 induction l with
 | nil => intro D F h; exact ⟨rfl, h⟩
 | cons n l ih =>
   intro D F h
   rw [wipeG, wipeG, rel_read h]
   split
   · exact ih h
   · exact rel_seq (rel_do h _) (fun D F h => ih h)
theorem rel_openG (f : FR) {D F : DS} (h : Rel D F) : (openG doP f D).2 = (openG doR f F).2 ∧ Rel (openG doP f D).1 (openG doR f F).1 := by
 unfold openG
 split
 · exact ⟨rfl, h⟩
 · refine rel_seq (rel_wipe _ h) (fun D F h => ?_)
   unfold endG
   split
   · exact rel_do h _
   · refine rel_seq ?_ (fun D F h => rel_seq (rel_wipe _ h) (fun D F h => rel_do h _))
     unfold repairG
     split
     · exact ⟨rfl, h⟩
     · exact rel_steps _ h
theorem rel_openS {D F : DS} (h : Rel D F) : (openS doP D).2 = (openS doR F).2 ∧ Rel (openS doP D).1 (openS doR F).1 := by
 unfold openS; rw [rel_find h]; exact rel_openG _ h
def cleanL (D : DS) (l : List ByteArray) : List OP := (l.filter fun n => (findD D.files n).isSome).map fun n => ⟨5, n, ⟨#[]⟩, []⟩
def openOps (f : FR) (D : DS) : List OP :=
 cleanL D [cutNm, newNm] ++ (if f.last = 0 then [⟨1, nameI 1, ⟨#[]⟩, []⟩] else (if f.torn = 0 then [] else cutOps f.last f.front) ++ cleanL D (f.older.map nameI) ++ [⟨3, nameI f.last, ⟨#[]⟩, []⟩])
abbrev FN := ByteArray → Option DF
abbrev fnd (D : DS) : FN := findD D.files
def effK (k : Nat) (n t : ByteArray) (b : List UInt8) (φ : FN) : FN := fun x =>
 if k = 1 then (if x = n then some ⟨n, [], 0⟩ else φ x)
 else match φ n with
 | none => φ x
 | some f =>
   if k = 2 then (if x = n then some ⟨n, f.b ++ b, f.d⟩ else φ x)
   else if k = 3 then (if x = n then some ⟨n, f.b, f.b.length⟩ else φ x)
   else if k = 4 then (if x = t then some ⟨t, f.b, f.d⟩ else if x = n then none else φ x)
   else (if x = n then none else φ x)
def effO (o : OP) (φ : FN) : FN := effK o.k o.n o.t o.b φ
theorem effK_kN (k : Nat) (n t : ByteArray) (b : List UInt8) (φ : FN) : effK (kN k) n t b φ = effK k n t b φ := by
 by_cases h : 1 ≤ k ∧ k ≤ 4
 · unfold kN; rw [if_pos h]
 · have h1 : k ≠ 1 := by omega
   have h2 : k ≠ 2 := by omega
   have h3 : k ≠ 3 := by omega
   have h4 : k ≠ 4 := by omega
   unfold kN; rw [if_neg h]
   funext x
   unfold effK
   rw [if_neg (by decide), if_neg h1]
   cases φ n with
   | none => rfl
   | some f => simp only [h2, h3, h4, if_false]; simp
theorem sum_insF (l : List DF) (f : DF) : sumD (insF l f) = f.b.length + sumD l := by
 induction l with
 | nil => simp [insF, sumD]
 | cons a l ih =>
   rw [insF]
   split
   · rw [sumD_cons, ih, sumD_cons]; omega
   · rw [sumD_cons]
theorem sum_outF (l : List DF) (n : ByteArray) : sumD (outF l n) ≤ sumD l := by
 induction l with
 | nil => exact Nat.le_refl _
 | cons a l ih =>
   unfold outF at ih ⊢
   rw [List.filter_cons]
   split
   · rw [sumD_cons, sumD_cons]; omega
   · rw [sumD_cons]; omega
structure EffP (k : Nat) (E : DS) (n t : ByteArray) (b : List UInt8) (r : DS × Int) : Prop where
 room : r.1.room = E.room
 fell : r.2 ≠ 0 → r.1.files = E.files
 went : r.2 = 0 → E.down = false ∧ r.1.down = false ∧ fnd r.1 = effK k n t b (fnd E) ∧ (k ≠ 2 → k ≠ 3 → k ≠ 4 → sumD r.1.files ≤ sumD E.files)
theorem effP_same {k : Nat} {E : DS} {n t : ByteArray} {b : List UInt8} {D : DS} {c : Int} (hr : D.room = E.room) (hf : D.files = E.files) (hc : c ≠ 0) : EffP k E n t b (D, c) := ⟨hr, fun _ => hf, fun h => absurd h hc⟩
theorem doF_eff (k : Nat) (E : DS) (n t : ByteArray) (b : List UInt8) : EffP k E n t b (doF k E n t b) := by
 unfold doF
 by_cases hd : E.down = true
 · rw [if_pos hd]; exact effP_same rfl rfl (by decide)
 rw [if_neg hd]
 have hd' : E.down = false := by simpa using hd
 by_cases hp : E.plan = 1
 · rw [if_pos hp]; exact effP_same rfl rfl (by decide)
 rw [if_neg hp]
 split
 · exact effP_same rfl rfl (by decide)
 rename_i hc
 by_cases h1 : k = 1
 · rw [if_pos h1]
   split
   · exact effP_same rfl rfl (by decide)
   · refine ⟨rfl, fun h => absurd rfl h, fun _ => ⟨hd', hd', ?_, fun _ _ _ => ?_⟩⟩
     · funext x
       show findD (putF E.files ⟨n, [], 0⟩) x = _
       rw [findD_putF, effK, if_pos h1]
     · show sumD (putF E.files ⟨n, [], 0⟩) ≤ _
       unfold putF
       rw [sum_insF]
       have := sum_outF E.files n
       simpa using this
 rw [if_neg h1]
 cases hf : findD E.files n with
 | none => exact effP_same rfl rfl (by decide)
 | some f =>
   have hfn := (findD_name hf).1
   simp only
   by_cases h2 : k = 2
   · rw [if_pos h2]
     split
     · exact effP_same rfl rfl (by decide)
     · refine ⟨rfl, fun h => absurd rfl h, fun _ => ⟨hd', hd', ?_, fun h => absurd h2 h⟩⟩
       funext x
       show findD (putF E.files ⟨f.name, f.b ++ b, f.d⟩) x = _
       rw [findD_putF, effK, if_neg h1, show fnd E n = some f from hf, hfn]
       simp only
       rw [if_pos h2]
   rw [if_neg h2]
   by_cases h3 : k = 3
   · rw [if_pos h3]
     refine ⟨rfl, fun h => absurd rfl h, fun _ => ⟨hd', hd', ?_, fun _ h => absurd h3 h⟩⟩
     funext x
     show findD (putF E.files ⟨f.name, f.b, f.b.length⟩) x = _
     rw [findD_putF, effK, if_neg h1, show fnd E n = some f from hf, hfn]
     simp only
     rw [if_neg h2, if_pos h3]
   rw [if_neg h3]
   by_cases h4 : k = 4
   · rw [if_pos h4]
     refine ⟨rfl, fun h => absurd rfl h, fun _ => ⟨hd', hd', ?_, fun _ _ h => absurd h4 h⟩⟩
     funext x
     show findD (putF (outF E.files n) ⟨t, f.b, f.d⟩) x = _
     rw [findD_putF, findD_outF, effK, if_neg h1, show fnd E n = some f from hf]
     simp only
     rw [if_neg h2, if_neg h3, if_pos h4]
   rw [if_neg h4]
   refine ⟨rfl, fun h => absurd rfl h, fun _ => ⟨hd', hd', ?_, fun _ _ _ => sum_outF _ _⟩⟩
   funext x
   show findD (outF E.files n) x = _
   rw [findD_outF, effK, if_neg h1, show fnd E n = some f from hf]
   simp only
   rw [if_neg h2, if_neg h3, if_neg h4]
theorem doR_eff (E : DS) (o : OP) : (doR E o).1.room = E.room ∧ ((doR E o).2 ≠ 0 → (doR E o).1.files = E.files) ∧ ((doR E o).2 = 0 → fnd (doR E o).1 = effO o (fnd E) ∧ (o.k ≠ 2 → o.k ≠ 3 → o.k ≠ 4 → sumD (doR E o).1.files ≤ sumD E.files)) := by
 have h := doF_eff (kN o.k) E o.n o.t o.b
 refine ⟨h.room, h.fell, fun hc => ?_⟩
 obtain ⟨-, -, h1, h2⟩ := h.went hc
 refine ⟨?_, fun k2 k3 k4 => ?_⟩
 · rw [effK_kN] at h1; exact h1
 · refine h2 ?_ ?_ ?_ <;> unfold kN <;> split <;> omega
theorem doR_ok {F : DS} {o : OP} (h : (doR F o).2 = 0) : F.down = false ∧ (doR F o).1.down = false ∧ ∀ x, x ≠ o.n → (o.k = 4 → x ≠ o.t) → findD (doR F o).1.files x = findD F.files x := by
 obtain ⟨h1, h2, h3, -⟩ := (doF_eff (kN o.k) F o.n o.t o.b).went h
 refine ⟨h1, h2, fun x hx ht => ?_⟩
 rw [effK_kN] at h3
 have h4 := congrFun h3 x
 rw [show findD (doR F o).1.files x = fnd (doF (kN o.k) F o.n o.t o.b).1 x from rfl, h4]
 unfold effK
 by_cases q1 : o.k = 1
 · rw [if_pos q1, if_neg hx]
 · rw [if_neg q1]
   cases fnd F o.n with
   | none => rfl
   | some f =>
     simp only
     by_cases q4 : o.k = 4
     · rw [if_neg (by omega), if_neg (by omega), if_pos q4, if_neg (ht q4), if_neg hx]
     · rw [if_neg q4]
       simp only [if_neg hx]
       split
       · rfl
       · split <;> rfl
theorem cleanL_congr {D D' : DS} {l : List ByteArray} (h : ∀ n ∈ l, findD D'.files n = findD D.files n) : cleanL D' l = cleanL D l := by
 unfold cleanL
 rw [List.filter_congr (fun n hn => by rw [h n hn])]
theorem wipe_steps (l : List ByteArray) : ∀ {D : DS}, D.down = false → l.Nodup → wipeG doR D l = stepsG doR D (cleanL D l) := by
 induction l with
 | nil => intro D _ _; rfl
 | cons n l ih =>
   intro D hd hn
   obtain ⟨h1, h2⟩ := List.nodup_cons.1 hn
   rw [wipeG]
   cases hf : findD D.files n with
   | none =>
     have e1 : (readD D n).2 = 6 := by unfold readD; rw [hd, hf]; rfl
     have e2 : cleanL D (n :: l) = cleanL D l := by unfold cleanL; rw [List.filter_cons_of_neg (by rw [hf]; simp)]
     rw [e1, if_pos (by decide), e2]
     exact ih hd h2
   | some f =>
     have e1 : (readD D n).2 = 0 := by unfold readD; rw [hd, hf]; rfl
     have e2 : cleanL D (n :: l) = ⟨5, n, ⟨#[]⟩, []⟩ :: cleanL D l := by unfold cleanL; rw [List.filter_cons_of_pos (by rw [hf]; simp)]; rfl
     rw [e1, if_neg (by decide), e2, stepsG]
     unfold seqG
     by_cases h0 : (doR D ⟨5, n, ⟨#[]⟩, []⟩).2 = 0
     · obtain ⟨-, h3, h4⟩ := doR_ok h0
       simp only [h0, ne_eq, not_true_eq_false, if_false]
       rw [ih h3 h2, cleanL_congr (fun x hx => h4 x (fun e => h1 (by rw [show x = n from e] at hx; exact hx)) (by intro h; simp at h))]
     · simp only [ne_eq, h0, not_false_eq_true, if_true]
theorem steps_ok (l : List OP) : ∀ {F : DS}, F.down = false → (stepsG doR F l).2 = 0 → (stepsG doR F l).1.down = false ∧ ∀ x, (∀ o ∈ l, x ≠ o.n ∧ (o.k = 4 → x ≠ o.t)) → findD (stepsG doR F l).1.files x = findD F.files x := by
 induction l with
 | nil => intro F h _; exact ⟨h, fun _ _ => rfl⟩
 | cons o l ih =>
   intro F hd h
   rw [stepsG] at h ⊢
   unfold seqG at h ⊢
   by_cases h0 : (doR F o).2 = 0
   · simp only [h0, ne_eq, not_true_eq_false, if_false] at h ⊢
     obtain ⟨-, h3, h4⟩ := doR_ok h0
     obtain ⟨h5, h6⟩ := ih h3 h
     exact ⟨h5, fun x hx => (h6 x (fun o ho => hx o (List.mem_cons_of_mem _ ho))).trans (h4 x (hx o (by simp)).1 (hx o (by simp)).2)⟩
   · rw [if_pos h0] at h
     exact absurd h h0
theorem mem_segs {D : DS} {n : Int} (h : n ∈ segsD D) : 1 ≤ n ∧ n ≤ 99999999 := by
 unfold segsD at h
 rw [mem_refL] at h
 unfold numsL at h
 obtain ⟨s, hs, rfl⟩ := List.mem_map.1 h
 obtain ⟨hs1, hs2⟩ := List.mem_filter.1 hs
 have h0 : 0 < numV s.data.toList := of_decide_eq_true hs2
 have := numV_le s.data.toList
 omega
theorem nameI_inj {a b : Int} (ha : 1 ≤ a ∧ a ≤ 99999999) (hb : 1 ≤ b ∧ b ≤ 99999999) (h : nameI a = nameI b) : a = b := by
 obtain ⟨x, rfl⟩ : ∃ x : Nat, a = x := ⟨a.toNat, by omega⟩
 obtain ⟨y, rfl⟩ : ∃ x : Nat, b = x := ⟨b.toNat, by omega⟩
 rcases Nat.lt_trichotomy x y with h1 | h1 | h1
 · exact absurd h (nameI_ne (by omega) h1 (by omega))
 · rw [h1]
 · exact absurd h.symm (nameI_ne (by omega) h1 (by omega))
theorem nameI_cut (n : Int) : nameI n ≠ cutNm ∧ nameI n ≠ newNm := by
 by_cases h : 1 ≤ n ∧ n ≤ 99999999
 · obtain ⟨x, rfl⟩ : ∃ x : Nat, n = x := ⟨n.toNat, by omega⟩
   have e := nameI_yes (n := x) (by omega) (by omega)
   have hl := nameL_length x
   have hs : (nameI (x : Int)).size = 12 := by rw [e, Lib.size_eq]; simpa using hl
   exact ⟨fun e => by rw [e] at hs; exact absurd hs (by decide), fun e => by rw [e] at hs; exact absurd hs (by decide)⟩
 · unfold nameI; rw [if_neg h]
   exact ⟨by decide, by decide⟩
theorem cut_ne_new : cutNm ≠ newNm := by decide
theorem lastN_mem {L : List Int} (h : L ≠ []) : lastN L ∈ L := by
 unfold lastN
 have := List.length_pos_iff.2 h
 rw [List.getD_eq_getElem?_getD, List.getElem?_eq_getElem (by omega)]
 exact List.getElem_mem _
theorem inc_take_last {L : List Int} (h : Inc L) {k : Nat} (hk : k < L.length) {n : Int} (hn : n ∈ L.take k) : n < lastN L := by
 obtain ⟨j, hj, rfl⟩ := List.mem_iff_getElem.1 hn
 rw [List.length_take] at hj
 rw [List.getElem_take]
 unfold lastN
 rw [List.getD_eq_getElem?_getD, List.getElem?_eq_getElem (by omega)]
 exact List.pairwise_iff_getElem.1 h _ _ _ _ (by omega)
theorem open_steps {D : DS} (hd : D.down = false) (h : (findS D).code = 0) : openS doR D = stepsG doR D (openOps (findS D) D) := by
 unfold openS openG
 rw [if_neg (by simp [h])]
 have hw := wipe_steps [cutNm, newNm] hd (by simp [cut_ne_new])
 rw [hw]
 unfold openOps
 rw [stepsG_append]
 unfold seqG
 by_cases h0 : (stepsG doR D (cleanL D [cutNm, newNm])).2 = 0
 case neg => simp only [ne_eq, h0, not_false_eq_true, if_true]
 simp only [h0, ne_eq, not_true_eq_false, if_false]
 obtain ⟨hd1, hk1⟩ := steps_ok _ hd h0
 unfold endG
 have hfs : findS D = findG (contD D) (segsD D) := by unfold findS; rw [hd]; rfl
 by_cases hl : (findS D).last = 0
 · rw [if_pos hl, if_pos hl, hl]
   exact (steps_one _ _ _).symm
 · rw [if_neg hl, if_neg hl]
   have hL : segsD D ≠ [] := fun e => hl (by rw [hfs, findG, if_pos e]; rfl)
   have hfr : ∃ k, k < (segsD D).length ∧ (findS D).older = (segsD D).take k ∧ (findS D).last = lastN (segsD D) := by
     rw [hfs] at hl ⊢
     unfold findG at hl ⊢
     rw [if_neg hL] at hl ⊢
     split at hl
     · rename_i hc
       rw [if_pos hc]
       have := markK_le (contD D) (segsD D) ((segsD D).length - 1)
       have := List.length_pos_iff.2 hL
       exact ⟨_, by omega, rfl, rfl⟩
     · exact absurd rfl hl
   obtain ⟨k, hk, ho, hla⟩ := hfr
   have hlast := mem_segs (lastN_mem hL)
   rw [← hla] at hlast
   have hmax : max (findS D).last 1 = (findS D).last := by omega
   rw [hmax]
   have holder : ∀ n ∈ (findS D).older, n < (findS D).last ∧ 1 ≤ n ∧ n ≤ 99999999 := fun n hn => by
     rw [ho] at hn
     have h1 := inc_take_last (inc_segs _) hk hn
     have h2 := mem_segs (List.mem_of_mem_take hn)
     rw [← hla] at h1
     exact ⟨h1, h2⟩
   rw [List.append_assoc, stepsG_append]
   have hrep : ∀ E : DS, repairG doR (findS D) E = stepsG doR E (if (findS D).torn = 0 then [] else cutOps (findS D).last (findS D).front) := fun E => by
     unfold repairG
     split
     · rfl
     · rfl
   rw [hrep]
   unfold seqG
   by_cases h3 : (stepsG doR (stepsG doR D (cleanL D [cutNm, newNm])).1 (if (findS D).torn = 0 then [] else cutOps (findS D).last (findS D).front)).2 = 0
   case neg => simp only [ne_eq, h3, not_false_eq_true, if_true]
   simp only [h3, ne_eq, not_true_eq_false, if_false]
   obtain ⟨hd2, hk2⟩ := steps_ok _ hd1 h3
   have hnd : ((findS D).older.map nameI).Nodup := by
     rw [ho]
     refine List.pairwise_map.2 (((inc_segs _).sublist (List.take_sublist _ _)).imp_of_mem (fun {a b} ha hb hab e => ?_))
     have h1 := mem_segs (List.mem_of_mem_take ha)
     have h2 := mem_segs (List.mem_of_mem_take hb)
     have := nameI_inj h1 h2 e
     omega
   have hcl : cleanL (stepsG doR (stepsG doR D (cleanL D [cutNm, newNm])).1 (if (findS D).torn = 0 then [] else cutOps (findS D).last (findS D).front)).1 ((findS D).older.map nameI) = cleanL D ((findS D).older.map nameI) := cleanL_congr (fun x hx => by
     obtain ⟨n, hn, rfl⟩ := List.mem_map.1 hx
     obtain ⟨h5, h6⟩ := holder n hn
     have hc := nameI_cut n
     rw [hk2 _ (fun o ho => ?_), hk1 _ (fun o ho => ?_)]
     · unfold cleanL at ho
       obtain ⟨m, hm, rfl⟩ := List.mem_map.1 ho
       have hm1 := (List.mem_filter.1 hm).1
       simp only [List.mem_cons, List.not_mem_nil, or_false] at hm1
       rcases hm1 with rfl | rfl
       · exact ⟨hc.1, by intro h; simp at h⟩
       · exact ⟨hc.2, by intro h; simp at h⟩
     · split at ho
       · cases ho
       · unfold cutOps at ho
         have hne : nameI n ≠ nameI (findS D).last := fun e => by have := nameI_inj h6 hlast e; omega
         simp only [List.mem_cons, List.not_mem_nil, or_false] at ho
         rcases ho with rfl | rfl | rfl | rfl <;> exact ⟨hc.1, fun _ => by first | exact hne | simp_all⟩)
   unfold trimG
   rw [wipe_steps _ hd2 hnd, hcl, stepsG_append]
   unfold seqG
   by_cases h4 : (stepsG doR (stepsG doR (stepsG doR D (cleanL D [cutNm, newNm])).1 (if (findS D).torn = 0 then [] else cutOps (findS D).last (findS D).front)).1 (cleanL D ((findS D).older.map nameI))).2 = 0
   case neg => simp only [ne_eq, h4, not_false_eq_true, if_true]
   simp only [h4, ne_eq, not_true_eq_false, if_false]
   exact (steps_one _ _ _).symm
theorem marked_split (b : List UInt8) : markedB b = decide ((splitB b).1.head? = some []) := by
 unfold markedB
 cases hn : nextB b with
 | none => rw [splitB_none hn]; rfl
 | some p =>
   obtain ⟨x, n⟩ := p
   rw [splitB_some hn]
   simp
theorem restUp_congr {g g' : Int → List UInt8} {R : List Int} {m : Nat} (h : ∀ i, i < m → restAt g' R i = restAt g R i) : restUp g' R m = restUp g R m := by
 induction m with
 | zero => rfl
 | succ m ih => rw [restUp_succ, restUp_succ, ih (fun i hi => h i (by omega)), h m (by omega)]
theorem mem_segs_iff (D : DS) (n : Int) : n ∈ segsD D ↔ (1 ≤ n ∧ n ≤ 99999999 ∧ (findD D.files (nameI n)).isSome = true) := by
 constructor
 · intro h
   obtain ⟨h1, h2⟩ := mem_segs h
   refine ⟨h1, h2, ?_⟩
   have hm := name_of_refL h
   cases hf : findD D.files (nameI n) with
   | some f => rfl
   | none => exact absurd hm (findD_none.1 hf)
 · rintro ⟨h1, h2, h3⟩
   unfold segsD
   rw [mem_refL]
   unfold numsL
   obtain ⟨x, rfl⟩ : ∃ x : Nat, n = x := ⟨n.toNat, by omega⟩
   have hm : nameI (x : Int) ∈ D.files.map DF.name := by
     cases hf : findD D.files (nameI x) with
     | none => rw [hf] at h3; cases h3
     | some f => have := findD_name hf; rw [← this.1]; exact List.mem_map_of_mem this.2
   have hv := nameI_num (n := x) (by omega) (by omega)
   exact List.mem_map.2 ⟨nameI x, List.mem_filter.2 ⟨hm, by rw [hv]; simp; omega⟩, by rw [hv]⟩
def effL (l : List OP) (φ : FN) : FN := l.foldl (fun φ o => effO o φ) φ
theorem effL_append (a b : List OP) (φ : FN) : effL (a ++ b) φ = effL b (effL a φ) := List.foldl_append ..
theorem doR_succ {E : DS} {o : OP} (hd : E.down = false) (hp : E.plan = 0) (hn : namedB o.n = true) (ht : o.k = 4 → namedB o.t = true) (h1 : o.k = 1 → fnd E o.n = none) (h2 : o.k ≠ 1 → (fnd E o.n).isSome = true) (hr : o.k = 2 → (sumD E.files : Int) + o.b.length ≤ E.room) :
   (doR E o).2 = 0 ∧ (doR E o).1.plan = 0 ∧ (doR E o).1.down = false := by
 have k1 : kN o.k = 1 ↔ o.k = 1 := by unfold kN; split <;> omega
 have k2 : kN o.k = 2 ↔ o.k = 2 := by unfold kN; split <;> omega
 have k4 : kN o.k = 4 ↔ o.k = 4 := by unfold kN; split <;> omega
 unfold doR
 generalize kN o.k = k at *
 unfold doF
 have hst : (stepF E).plan = 0 ∧ (stepF E).down = false := ⟨by show max (E.plan - 1) 0 = 0; rw [hp]; rfl, hd⟩
 rw [if_neg (by rw [hd]; decide), if_neg (by rw [hp]; decide), if_neg]
 rotate_left
 · rintro (h | ⟨h, h'⟩ | ⟨h, h'⟩)
   · rw [hn] at h; cases h
   · rw [ht (k4.1 h)] at h'; cases h'
   · have := h2 (fun e => h (k1.2 e))
     rw [show fnd E o.n = none from h'] at this
     cases this
 by_cases q1 : k = 1
 · rw [if_pos q1]
   have := h1 (k1.1 q1)
   rw [if_neg (by rw [show findD E.files o.n = none from this]; decide)]
   exact ⟨rfl, hst⟩
 · rw [if_neg q1]
   have := h2 (fun e => q1 (k1.2 e))
   cases hf : findD E.files o.n with
   | none => rw [show fnd E o.n = none from hf] at this; cases this
   | some f =>
     simp only
     by_cases q2 : k = 2
     · rw [if_pos q2, if_neg (by have := hr (k2.1 q2); omega)]
       exact ⟨rfl, hst⟩
     · rw [if_neg q2]
       split
       · exact ⟨rfl, hst⟩
       · split
         · exact ⟨rfl, hst⟩
         · exact ⟨rfl, hst⟩
theorem steps_eff (l : List OP) : ∀ E : DS, ∃ m, m ≤ l.length ∧ fnd (stepsG doR E l).1 = effL (l.take m) (fnd E) ∧ (stepsG doR E l).1.room = E.room ∧ ((stepsG doR E l).2 = 0 → m = l.length) := by
 induction l with
 | nil => intro E; exact ⟨0, Nat.le_refl _, rfl, rfl, fun _ => rfl⟩
 | cons o l ih =>
   intro E
   obtain ⟨h1, h2, h3⟩ := doR_eff E o
   rw [stepsG]
   unfold seqG
   by_cases h0 : (doR E o).2 = 0
   · simp only [h0, ne_eq, not_true_eq_false, if_false]
     obtain ⟨m, hm, h4, h5, h6⟩ := ih (doR E o).1
     refine ⟨m + 1, by rw [List.length_cons]; omega, ?_, h5.trans h1, fun h => by rw [List.length_cons, h6 h]⟩
     rw [h4, (h3 h0).1]; rfl
   · rw [if_pos h0]
     exact ⟨0, Nat.zero_le _, by show findD _ = _; rw [h2 h0]; rfl, h1, fun h => absurd h h0⟩
abbrev rmO (n : ByteArray) : OP := ⟨5, n, ⟨#[]⟩, []⟩
theorem effO_rm (n : ByteArray) (φ : FN) (x : ByteArray) : effO (rmO n) φ x = if x = n then none else φ x := by
 unfold effO effK
 rw [if_neg (show ¬ (5 : Nat) = 1 by decide)]
 show (match φ n with
   | none => φ x
   | some f => _) = _
 cases hf : φ n with
 | none =>
   by_cases h : x = n
   · rw [if_pos h, h]; exact hf
   · rw [if_neg h]
 | some f => simp
open Classical in
theorem rm_all (l : List ByteArray) : ∀ {E : DS}, E.down = false → E.plan = 0 → l.Nodup → (∀ n ∈ l, namedB n = true ∧ (fnd E n).isSome = true) →
   (stepsG doR E (l.map rmO)).2 = 0 ∧ (stepsG doR E (l.map rmO)).1.plan = 0 ∧ (stepsG doR E (l.map rmO)).1.down = false ∧ (stepsG doR E (l.map rmO)).1.room = E.room ∧
     sumD (stepsG doR E (l.map rmO)).1.files ≤ sumD E.files ∧ fnd (stepsG doR E (l.map rmO)).1 = fun x => if x ∈ l then none else fnd E x := by
 induction l with
 | nil => intro E hd hp _ _; exact ⟨rfl, hp, hd, rfl, Nat.le_refl _, by funext x; simp [stepsG]⟩
 | cons n l ih =>
   intro E hd hp hnd hm
   obtain ⟨hn1, hn2⟩ := List.nodup_cons.1 hnd
   obtain ⟨s1, s2, s3⟩ := doR_succ (o := rmO n) hd hp (hm n (by simp)).1 (by intro h; simp at h) (by intro h; simp at h) (fun _ => (hm n (by simp)).2) (by intro h; simp at h)
   obtain ⟨e1, e2, e3⟩ := doR_eff E (rmO n)
   obtain ⟨e4, e5⟩ := e3 s1
   have e6 := e5 (by simp) (by simp) (by simp)
   obtain ⟨i1, i2, i3, i4, i5, i6⟩ := ih s3 s2 hn2 (fun x hx => ⟨(hm x (by simp [hx])).1, by
     rw [e4, effO_rm, if_neg (fun e => hn1 (by rw [show x = n from e] at hx; exact hx))]; exact (hm x (by simp [hx])).2⟩)
   have hq : stepsG doR E ((n :: l).map rmO) = stepsG doR (doR E (rmO n)).1 (l.map rmO) := by
     rw [List.map_cons, stepsG]
     unfold seqG
     rw [if_neg (by rw [s1]; decide)]
   rw [hq]
   refine ⟨i1, i2, i3, i4.trans e1, Nat.le_trans i5 e6, ?_⟩
   rw [i6, e4]
   funext x
   rw [effO_rm]
   by_cases hx : x = n
   · simp [hx]
   · simp [hx]
open Classical in
noncomputable def openedF (f : FR) (φ : FN) : FN := fun x =>
 if x = cutNm ∨ x = newNm then none
 else if x = nameI (max f.last 1) then some ⟨nameI (max f.last 1), f.front, f.front.length⟩
 else if x ∈ f.older.map nameI then none
 else φ x
theorem cut_named : namedB cutNm = true ∧ namedB newNm = true := by decide
theorem find_shape {D : DS} (hd : D.down = false) (h : (findS D).code = 0) : (segsD D = [] ∧ findS D = FR.bad 0) ∨
   (segsD D ≠ [] ∧ ∃ k, k = markK (contD D) (segsD D) ((segsD D).length - 1) ∧ k < (segsD D).length ∧ (findS D).older = (segsD D).take k ∧ (findS D).last = lastN (segsD D) ∧
     (findS D).front = (contD D (lastN (segsD D))).take (splitB (contD D (lastN (segsD D)))).2 ∧ (findS D).torn = (contD D (lastN (segsD D))).length - (splitB (contD D (lastN (segsD D)))).2 ∧ 1 ≤ (findS D).last ∧ (findS D).last ≤ 99999999) := by
 have hfs : findS D = findG (contD D) (segsD D) := by unfold findS; rw [hd]; rfl
 by_cases hL : segsD D = []
 · exact .inl ⟨hL, by rw [hfs, findG, if_pos hL]⟩
 · refine .inr ⟨hL, _, rfl, ?_⟩
   have hk := markK_le (contD D) (segsD D) ((segsD D).length - 1)
   have hl := List.length_pos_iff.2 hL
   have hm := mem_segs (lastN_mem hL)
   rw [hfs, findG, if_neg hL] at h ⊢
   split at h
   · rename_i hc
     rw [if_pos hc]
     exact ⟨by omega, rfl, rfl, rfl, rfl, hm⟩
   · exact absurd h (by decide)
theorem nameI_named2 {n : Int} (h : 1 ≤ n ∧ n ≤ 99999999) : namedB (nameI n) = true := by
 obtain ⟨x, rfl⟩ : ∃ x : Nat, n = x := ⟨n.toNat, by omega⟩
 exact nameI_named (by omega) (by omega)
theorem contD_some {D : DS} (hd : D.down = false) {n : Int} {f : DF} (h : fnd D (nameI n) = some f) : contD D n = f.b := by
 unfold contD; rw [readD_up hd, show findD D.files (nameI n) = some f from h]
theorem cleanL_filter (D : DS) (l : List ByteArray) : cleanL D l = (l.filter fun n => (fnd D n).isSome).map rmO := rfl
theorem step_succ {E : DS} {l : List OP} {o : OP} (h : (doR E o).2 = 0) : stepsG doR E (o :: l) = stepsG doR (doR E o).1 l := by
 rw [stepsG]; unfold seqG; rw [if_neg (by rw [h]; decide)]
theorem steps_succ {E : DS} {a b : List OP} (h : (stepsG doR E a).2 = 0) : stepsG doR E (a ++ b) = stepsG doR (stepsG doR E a).1 b := by
 rw [stepsG_append]; unfold seqG; rw [if_neg (by rw [h]; decide)]
theorem open_good {E : DS} (hd : E.down = false) (hp : E.plan = 0) (h : (findS E).code = 0) (hr : (findS E).torn ≠ 0 → (sumD E.files : Int) + (findS E).front.length ≤ E.room) :
   (openS doR E).2 = 0 ∧ (openS doR E).1.plan = 0 ∧ (openS doR E).1.down = false ∧ (openS doR E).1.room = E.room ∧ fnd (openS doR E).1 = openedF (findS E) (fnd E) := by
 rw [open_steps hd h]
 unfold openOps
 have hA : cleanL E [cutNm, newNm] = ([cutNm, newNm].filter fun n => (fnd E n).isSome).map rmO := rfl
 obtain ⟨a1, a2, a3, a4, a5, a6⟩ := rm_all ([cutNm, newNm].filter fun n => (fnd E n).isSome) hd hp ((show [cutNm, newNm].Nodup by simp [cut_ne_new]).sublist List.filter_sublist) (fun n hn => by
   obtain ⟨h1, h2⟩ := List.mem_filter.1 hn
   simp only [List.mem_cons, List.not_mem_nil, or_false] at h1
   refine ⟨?_, h2⟩
   rcases h1 with rfl | rfl
   · exact cut_named.1
   · exact cut_named.2)
 rw [← hA] at a1 a2 a3 a4 a5 a6
 have a7 : fnd (stepsG doR E (cleanL E [cutNm, newNm])).1 = fun x => if x = cutNm ∨ x = newNm then none else fnd E x := by
   rw [a6]; funext x
   by_cases hx : x = cutNm ∨ x = newNm
   · rw [if_pos hx]
     split
     · rfl
     · rename_i hn
       cases hf : fnd E x with
       | none => rfl
       | some f => exact absurd (List.mem_filter.2 ⟨by rcases hx with rfl | rfl <;> simp, by rw [hf]; rfl⟩) hn
   · rw [if_neg hx, if_neg]
     intro hm
     have := (List.mem_filter.1 hm).1
     simp only [List.mem_cons, List.not_mem_nil, or_false] at this
     exact hx this
 rw [steps_succ a1]
 generalize (stepsG doR E (cleanL E [cutNm, newNm])).1 = E1 at *
 clear a1 a6 hA
 rcases find_shape hd h with ⟨hL, hf⟩ | ⟨hL, k, -, hk, ho, hla, hfr, hto, hl1, hl2⟩
 · rw [hf, if_pos (show (FR.bad 0).last = 0 from rfl)]
   have hn1 : fnd E1 (nameI 1) = none := by
     rw [a7]
     have hc := nameI_cut 1
     simp only [hc.1, hc.2, or_self, if_false]
     cases hx : fnd E (nameI 1) with
     | none => rfl
     | some f => exact absurd ((mem_segs_iff E 1).2 ⟨by decide, by decide, by show (fnd E (nameI 1)).isSome = true; rw [hx]; rfl⟩) (by rw [hL]; simp)
   obtain ⟨s1, s2, s3⟩ := doR_succ (o := ⟨1, nameI 1, ⟨#[]⟩, []⟩) a3 a2 (nameI_named2 (n := 1) (by decide)) (by intro h; simp at h) (fun _ => hn1) (by intro h; simp at h) (by intro h; simp at h)
   obtain ⟨e1, -, e3⟩ := doR_eff E1 ⟨1, nameI 1, ⟨#[]⟩, []⟩
   rw [step_succ s1, stepsG]
   refine ⟨rfl, s2, s3, e1.trans a4, ?_⟩
   rw [(e3 s1).1, a7]
   funext x
   unfold effO effK openedF
   rw [if_pos rfl]
   show (if x = nameI 1 then _ else if _ then _ else _) = if _ then _ else if x = nameI 1 then _ else _
   have hm1 : nameI (max 0 1) = nameI 1 := rfl
   by_cases hx : x = nameI 1
   · have hc := nameI_cut 1
     simp [hx, hc.1, hc.2, FR.bad, hm1]
   · simp [hx, FR.bad]
 · have hl0 : (findS E).last ≠ 0 := by omega
   have hmax : max (findS E).last 1 = (findS E).last := by omega
   rw [if_neg hl0, List.append_assoc]
   have hlastE : (fnd E (nameI (findS E).last)).isSome = true := by
     have := (mem_segs_iff E (findS E).last).1 (by rw [hla]; exact lastN_mem hL)
     exact this.2.2
   have hcl := nameI_cut (findS E).last
   have hlastE1 : fnd E1 (nameI (findS E).last) = fnd E (nameI (findS E).last) := by rw [a7]; simp [hcl.1, hcl.2]
   have hfrl : ∀ f, fnd E (nameI (findS E).last) = some f → contD E (lastN (segsD E)) = f.b := fun f hf => by rw [← hla]; exact contD_some hd hf
   -- the last segment
   obtain ⟨E2, hE2, b2, b3, b4, b7⟩ : ∃ E2, (stepsG doR E1 ((if (findS E).torn = 0 then [] else cutOps (findS E).last (findS E).front) ++ (cleanL E ((findS E).older.map nameI) ++ [⟨3, nameI (findS E).last, ⟨#[]⟩, []⟩])) = stepsG doR E2 (cleanL E ((findS E).older.map nameI) ++ [⟨3, nameI (findS E).last, ⟨#[]⟩, []⟩])) ∧
       E2.plan = 0 ∧ E2.down = false ∧ E2.room = E.room ∧ (∃ d, fnd E2 = fun x => if x = cutNm ∨ x = newNm then none else if x = nameI (findS E).last then some ⟨nameI (findS E).last, (findS E).front, d⟩ else fnd E x) := by
     by_cases ht : (findS E).torn = 0
     · rw [if_pos ht]
       refine ⟨E1, rfl, a2, a3, a4, ?_⟩
       cases hf : fnd E (nameI (findS E).last) with
       | none => rw [hf] at hlastE; cases hlastE
       | some f =>
         have hfb := hfrl f hf
         have hsl := splitB_le f.b
         rw [hfb] at hfr hto
         have hfull : (findS E).front = f.b := by rw [hfr]; exact List.take_of_length_le (by omega)
         refine ⟨f.d, ?_⟩
         rw [a7]; funext x
         by_cases hx : x = nameI (findS E).last
         · have hxc : ¬ (x = cutNm ∨ x = newNm) := by rw [hx]; simp [hcl.1, hcl.2]
           rw [if_neg hxc, if_neg hxc, if_pos hx, hx, hf, hfull, ← (findD_name (show findD E.files (nameI (findS E).last) = some f from hf)).1]
         · simp [hx]
     · rw [if_neg ht]
       unfold cutOps
       have hc0 : fnd E1 cutNm = none := by rw [a7]; simp
       obtain ⟨s1, s2, s3⟩ := doR_succ (o := ⟨1, cutNm, ⟨#[]⟩, []⟩) a3 a2 cut_named.1 (by intro h; simp at h) (fun _ => hc0) (by intro h; simp at h) (by intro h; simp at h)
       obtain ⟨e1, -, e3⟩ := doR_eff E1 ⟨1, cutNm, ⟨#[]⟩, []⟩
       obtain ⟨e4, e5⟩ := e3 s1
       have e6 := e5 (by simp) (by simp) (by simp)
       have e7 : fnd (doR E1 ⟨1, cutNm, ⟨#[]⟩, []⟩).1 cutNm = some ⟨cutNm, [], 0⟩ := by rw [e4]; simp [effO, effK]
       rw [List.cons_append, step_succ s1]
       generalize (doR E1 ⟨1, cutNm, ⟨#[]⟩, []⟩).1 = G1 at *
       clear e3 s1
       obtain ⟨t1, t2, t3⟩ := doR_succ (o := ⟨2, cutNm, ⟨#[]⟩, (findS E).front⟩) s3 s2 cut_named.1 (by intro h; simp at h) (by intro h; simp at h) (fun _ => by rw [e7]; rfl) (fun _ => by have := hr ht; show (sumD G1.files : Int) + ((findS E).front.length : Int) ≤ G1.room; rw [e1, a4]; omega)
       obtain ⟨g1, -, g3⟩ := doR_eff G1 ⟨2, cutNm, ⟨#[]⟩, (findS E).front⟩
       have g4 := (g3 t1).1
       have g7 : fnd (doR G1 ⟨2, cutNm, ⟨#[]⟩, (findS E).front⟩).1 cutNm = some ⟨cutNm, (findS E).front, 0⟩ := by rw [g4]; simp [effO, effK, e7]
       rw [List.cons_append, step_succ t1]
       generalize (doR G1 ⟨2, cutNm, ⟨#[]⟩, (findS E).front⟩).1 = G2 at *
       clear g3 t1
       obtain ⟨u1, u2, u3⟩ := doR_succ (o := ⟨3, cutNm, ⟨#[]⟩, []⟩) t3 t2 cut_named.1 (by intro h; simp at h) (by intro h; simp at h) (fun _ => by rw [g7]; rfl) (by intro h; simp at h)
       obtain ⟨i1, -, i3⟩ := doR_eff G2 ⟨3, cutNm, ⟨#[]⟩, []⟩
       have i4 := (i3 u1).1
       have i7 : fnd (doR G2 ⟨3, cutNm, ⟨#[]⟩, []⟩).1 cutNm = some ⟨cutNm, (findS E).front, (findS E).front.length⟩ := by rw [i4]; simp [effO, effK, g7]
       rw [List.cons_append, step_succ u1]
       generalize (doR G2 ⟨3, cutNm, ⟨#[]⟩, []⟩).1 = G3 at *
       clear i3 u1
       obtain ⟨v1, v2, v3⟩ := doR_succ (o := ⟨4, cutNm, nameI (findS E).last, []⟩) u3 u2 cut_named.1 (fun _ => nameI_named2 ⟨hl1, hl2⟩) (by intro h; simp at h) (fun _ => by rw [i7]; rfl) (by intro h; simp at h)
       obtain ⟨j1, -, j3⟩ := doR_eff G3 ⟨4, cutNm, nameI (findS E).last, []⟩
       have j4 := (j3 v1).1
       rw [List.cons_append, step_succ v1, List.nil_append]
       refine ⟨_, rfl, v2, v3, by rw [j1, i1, g1, e1, a4], (findS E).front.length, ?_⟩
       rw [j4]; funext x
       have hx3 : x ≠ cutNm → fnd G3 x = fnd E1 x := fun hx => by
         rw [i4]; simp only [effO, effK, g7]; rw [g4]; simp only [effO, effK, e7]; rw [e4]; simp [effO, effK, hx]
       by_cases hx : x = cutNm
       · subst hx
         simp [effO, effK, i7, Ne.symm hcl.1]
       · have h3 := hx3 hx
         simp only [effO, effK, i7]
         by_cases hxl : x = nameI (findS E).last
         · simp [hxl, hcl.1, hcl.2]
         · simp [hxl, hx, h3, a7]
   rw [hE2]
   obtain ⟨d, b7⟩ := b7
   have hold : ∀ n ∈ (findS E).older, nameI n ≠ nameI (findS E).last ∧ namedB (nameI n) = true ∧ (fnd E (nameI n)).isSome = true := fun n hn => by
     rw [ho] at hn
     have h1 := inc_take_last (inc_segs _) hk hn
     have h2 := mem_segs (List.mem_of_mem_take hn)
     have h3 := (mem_segs_iff E n).1 (List.mem_of_mem_take hn)
     rw [← hla] at h1
     exact ⟨fun e => by have := nameI_inj h2 ⟨hl1, hl2⟩ e; omega, nameI_named2 h2, h3.2.2⟩
   have hcC : cleanL E ((findS E).older.map nameI) = ((findS E).older.map nameI).map rmO := by
     rw [cleanL_filter, List.filter_eq_self.2]
     intro x hx
     obtain ⟨n, hn, rfl⟩ := List.mem_map.1 hx
     exact (hold n hn).2.2
   have hnd : ((findS E).older.map nameI).Nodup := by
     rw [ho]
     refine List.pairwise_map.2 (((inc_segs _).sublist (List.take_sublist _ _)).imp_of_mem (fun {a b} ha hb hab e => ?_))
     have h1 := mem_segs (List.mem_of_mem_take ha)
     have h2 := mem_segs (List.mem_of_mem_take hb)
     have := nameI_inj h1 h2 e
     omega
   obtain ⟨c1, c2, c3, c4, c5, c6⟩ := rm_all ((findS E).older.map nameI) b3 b2 hnd (fun x hx => by
     obtain ⟨n, hn, rfl⟩ := List.mem_map.1 hx
     obtain ⟨h1, h2, h3⟩ := hold n hn
     have hc := nameI_cut n
     refine ⟨h2, ?_⟩
     rw [b7]
     simpa [hc.1, hc.2, h1] using h3)
   rw [hcC, steps_succ c1]
   have hlm : nameI (findS E).last ∉ (findS E).older.map nameI := fun hm => by
     obtain ⟨n, hn, e⟩ := List.mem_map.1 hm
     exact (hold n hn).1 e
   have c7 : fnd (stepsG doR E2 (((findS E).older.map nameI).map rmO)).1 (nameI (findS E).last) = some ⟨nameI (findS E).last, (findS E).front, d⟩ := by
     rw [c6, b7]; simp only [hlm, if_false, hcl.1, hcl.2, or_self, if_true]
   generalize (stepsG doR E2 (((findS E).older.map nameI).map rmO)).1 = E3 at *
   obtain ⟨w1, w2, w3⟩ := doR_succ (o := ⟨3, nameI (findS E).last, ⟨#[]⟩, []⟩) c3 c2 (nameI_named2 ⟨hl1, hl2⟩) (by intro h; simp at h) (by intro h; simp at h) (fun _ => by rw [c7]; rfl) (by intro h; simp at h)
   obtain ⟨k1, -, k3⟩ := doR_eff E3 ⟨3, nameI (findS E).last, ⟨#[]⟩, []⟩
   have k4 := (k3 w1).1
   rw [step_succ w1, stepsG]
   refine ⟨rfl, w2, w3, by rw [k1, c4, b4], ?_⟩
   rw [k4]; funext x
   unfold openedF
   rw [hmax]
   simp only [effO, effK, c7]
   by_cases hx : x = nameI (findS E).last
   · simp [hx, hcl.1, hcl.2]
   · rw [if_neg hx, c6, b7]
     by_cases hxc : x = cutNm ∨ x = newNm
     · have : x ∉ (findS E).older.map nameI := fun hm => by
         obtain ⟨n, hn, e⟩ := List.mem_map.1 hm
         have hc := nameI_cut n
         rcases hxc with h | h
         · exact hc.1 (e.trans h)
         · exact hc.2 (e.trans h)
       simp [this, hxc, hx]
     · simp [hx, hxc]
end Go.Proofs.YtgdmdbdljmlkkaaGreatDoor
