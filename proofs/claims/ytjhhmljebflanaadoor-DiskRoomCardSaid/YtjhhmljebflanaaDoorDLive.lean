/- A disk that a law has made: its blocks lie behind those of the law's caller. -/
import Derived.Test.YtjhhmljebflanaaDoorDCrash
namespace Go.Proofs.YtjhhmljebflanaaDoor
set_option linter.unusedVariables false
set_option linter.unusedSimpArgs false
open Go.RowKit

def Live (w0 w : World) (x : Value) (D : DS) : Prop := DRep w x D (fun k => w0.heap.size ≤ k ∧ k < w.heap.size) ∧ Below w0.heap.size w0 w

theorem Live.next {w0 w w' : World} {x : Value} {D D' : DS} (h : Live w0 w x D) (hr : DRep w' x D' (fun k => (w0.heap.size ≤ k ∧ k < w.heap.size) ∨ w.heap.size ≤ k)) (hc : Chg (fun k => w0.heap.size ≤ k ∧ k < w.heap.size) w w') : Live w0 w' x D' := by
  have h0 := h.2.size
  exact ⟨hr.tight.mono (fun k hk => ⟨by rcases hk.1 with h1 | h1 <;> omega, hk.2⟩), h.2.trans (hc.toBelow h0 (fun n hn hk => by omega))⟩
theorem Live.below {w0 w w' : World} {x : Value} {D : DS} (h : Live w0 w x D) (hb : Below w.heap.size w w') : Live w0 w' x D := by
  have h0 := h.2.size
  have h1 := hb.size
  exact ⟨(h.1.frame (fun k _ hk => hb.block k hk)).mono (fun k hk => ⟨hk.1, by omega⟩), h.2.trans (hb.mono h0)⟩

theorem live_new (room : Int) (w : World) : Calls Tryd.prog 8 #[.int .i64 room] w fun e w' => ∃ x, e = .returned x ∧ (∃ bx, x = .pointer (some ⟨bx, 0, none⟩)) ∧ Live w w' x ⟨max room 0, [], 0, false⟩ := by
  refine (new_any room w).mono ?_
  rintro e w' ⟨x, rfl, hr, hb⟩
  refine ⟨x, rfl, ?_, hr.tight, hb⟩
  obtain ⟨bx, bm, col, pv, h, -⟩ := hr
  exact ⟨bx, h⟩

section
variable {w0 w : World} {x : Value} {D : DS}
theorem live_create (h : Live w0 w x D) (n : ByteArray) (hp : 0 ≤ D.plan ∧ D.plan ≤ 9223372036854775807) :
    Calls Tryd.prog 10 #[x, .string n] w fun e w' => e = .returned (.int .i64 (createD D n).2) ∧ Live w0 w' x (createD D n).1 := by
  refine (create_any x n D _ w h.1 hp).mono ?_
  rintro e w' ⟨rfl, hr, hc⟩
  exact ⟨rfl, h.next hr hc⟩
theorem live_append (h : Live w0 w x D) (n : ByteArray) (b : List UInt8) (ba : Option Addr) (bc : Nat) (hp : 0 ≤ D.plan ∧ D.plan ≤ 9223372036854775807) (hs : sumD D.files ≤ 1000000000) (hb : b.length ≤ 1000000000)
    (hrb : Reads w (.slice ba b.length bc) b.length 1 (byts b)) (hnb : ∀ ad, ba = some ad → 0 < b.length → ad.block < w0.heap.size) :
    Calls Tryd.prog 12 #[x, .string n, .slice ba b.length bc] w fun e w' => e = .returned (.int .i64 (appendD D n b).2) ∧ Live w0 w' x (appendD D n b).1 := by
  refine (append_any x n b ba bc D _ w h.1 hp hs hb hrb (fun ad had h0 hk => by have := hnb ad had h0; omega)).mono ?_
  rintro e w' ⟨rfl, hr, hc⟩
  exact ⟨rfl, h.next hr hc⟩
/-- The same for bytes that were laid just now. -/
theorem live_append_new (h : Live w0 w x D) {w1 : World} (hw : Below w.heap.size w w1) (n : ByteArray) (b : List UInt8) (ba : Option Addr) (bc : Nat) (hp : 0 ≤ D.plan ∧ D.plan ≤ 9223372036854775807) (hs : sumD D.files ≤ 1000000000) (hb : b.length ≤ 1000000000)
    (hrb : Reads w1 (.slice ba b.length bc) b.length 1 (byts b)) (hnb : ∀ ad, ba = some ad → w.heap.size ≤ ad.block) :
    Calls Tryd.prog 12 #[x, .string n, .slice ba b.length bc] w1 fun e w' => e = .returned (.int .i64 (appendD D n b).2) ∧ Live w0 w' x (appendD D n b).1 := by
  have h1 := h.below hw
  have hsz := hw.size
  have h0 := h.2.size
  refine (append_any x n b ba bc D (fun k => w0.heap.size ≤ k ∧ k < w.heap.size) w1 (h.1.frame (fun k _ hk => hw.block k hk)) hp hs hb hrb (fun ad had _ hk => by have := hnb ad had; omega)).mono ?_
  rintro e w' ⟨rfl, hr, hc⟩
  refine ⟨rfl, h1.next (hr.mono (fun k hk => ?_)) (hc.mono (fun k hk => ⟨hk.1, by omega⟩))⟩
  rcases hk with hk | hk
  · exact .inl ⟨hk.1, by omega⟩
  · exact .inr hk
theorem live_sync (h : Live w0 w x D) (n : ByteArray) (hp : 0 ≤ D.plan ∧ D.plan ≤ 9223372036854775807) :
    Calls Tryd.prog 14 #[x, .string n] w fun e w' => e = .returned (.int .i64 (syncD D n).2) ∧ Live w0 w' x (syncD D n).1 := by
  refine (sync_any x n D _ w h.1 hp).mono ?_
  rintro e w' ⟨rfl, hr, hc⟩
  exact ⟨rfl, h.next hr hc⟩
theorem live_arm (h : Live w0 w x D) (n : Int) :
    Calls Tryd.prog 11 #[x, .int .i64 n] w fun e w' => e = .returned (.tuple #[]) ∧ Live w0 w' x { D with plan := max n 0 } := by
  refine (arm_any x n D _ w h.1).mono ?_
  rintro e w' ⟨rfl, hr, hc⟩
  exact ⟨rfl, h.next (hr.mono (fun k hk => .inl hk)) hc⟩
theorem live_used (h : Live w0 w x D) (hs : sumD D.files ≤ 1000000000) :
    Calls Tryd.prog 15 #[x] w fun e w' => e = .returned (.int .i64 (sumD D.files)) ∧ Live w0 w' x D := by
  refine (used_any x D _ w h.1 hs).mono ?_
  rintro e w' ⟨rfl, hb⟩
  exact ⟨rfl, h.below hb⟩
theorem live_read (h : Live w0 w x D) (n : ByteArray) (hs : sumD D.files ≤ 1000000000) :
    Calls Tryd.prog 16 #[x, .string n] w fun e w' => ∃ a c, e = .returned (.tuple #[.slice a (readD D n).1.length c, .int .i64 (readD D n).2]) ∧ Row w' 5 1 (.slice a (readD D n).1.length c) (readD D n).1.length (byts (readD D n).1) (fun k => w.heap.size ≤ k) ∧ Below w.heap.size w w' ∧ Live w0 w' x D := by
  refine (read_any x n D _ w h.1 hs).mono ?_
  rintro e w' ⟨v, rfl, hr, hb⟩
  obtain ⟨-, a, c, hv, -⟩ := hr.reads
  subst hv
  exact ⟨a, c, rfl, hr, hb, h.below hb⟩
theorem live_crash (h : Live w0 w x D) (ka : Option Addr) (kc : Nat) (ks : List Int) (hl : D.files.length ≤ 100000) (hnm : ∀ f ∈ D.files, f.name.size ≤ maxLen)
    (hk : Reads w (.slice ka ks.length kc) ks.length 1 (ks.map (Value.int .i64))) (hkl : ks.length ≤ 100000) (hnk : ∀ ad, ka = some ad → ad.block < w0.heap.size) :
    Calls Tryd.prog 17 #[x, .slice ka ks.length kc] w fun e w' => ∃ ss : List (List UInt8), (ss.Pairwise (· < ·) ∧ ∀ s : List UInt8, s ∈ ss ↔ ⟨s.toArray⟩ ∈ D.files.map DF.name) ∧ e = .returned (.tuple #[]) ∧ Live w0 w' x (crashN D ss ks ss.length) := by
  refine (crash_any x ka kc ks D _ w h.1 hl hnm hk hkl (fun ad had _ hk => by have := hnk ad had; omega)).mono ?_
  rintro e w' ⟨ss, h1, rfl, hr, hc⟩
  exact ⟨ss, h1, rfl, h.next (hr.mono (fun k hk => .inl hk)) hc⟩
theorem live_crash_new (h : Live w0 w x D) {w1 : World} (hw : Below w.heap.size w w1) (ka : Option Addr) (kc : Nat) (ks : List Int) (hl : D.files.length ≤ 100000) (hnm : ∀ f ∈ D.files, f.name.size ≤ maxLen)
    (hk : Reads w1 (.slice ka ks.length kc) ks.length 1 (ks.map (Value.int .i64))) (hkl : ks.length ≤ 100000) (hnk : ∀ ad, ka = some ad → w.heap.size ≤ ad.block) :
    Calls Tryd.prog 17 #[x, .slice ka ks.length kc] w1 fun e w' => ∃ ss : List (List UInt8), (ss.Pairwise (· < ·) ∧ ∀ s : List UInt8, s ∈ ss ↔ ⟨s.toArray⟩ ∈ D.files.map DF.name) ∧ e = .returned (.tuple #[]) ∧ Live w0 w' x (crashN D ss ks ss.length) := by
  have h1 := h.below hw
  have hsz := hw.size
  refine (crash_any x ka kc ks D (fun k => w0.heap.size ≤ k ∧ k < w.heap.size) w1 (h.1.frame (fun k _ hk => hw.block k hk)) hl hnm hk hkl (fun ad had _ hk => by have := hnk ad had; omega)).mono ?_
  rintro e w' ⟨ss, h2, rfl, hr, hc⟩
  exact ⟨ss, h2, rfl, h1.next (hr.mono (fun k hk => .inl ⟨hk.1, by omega⟩)) (hc.mono (fun k hk => ⟨hk.1, by omega⟩))⟩
theorem live_down (h : Live w0 w x D) : Calls Tryd.prog 13 #[x] w fun e w' => e = .returned (.bool D.down) ∧ w' = w := down_any x D _ w h.1
end

/-! ### A disk with one file -/
theorem create_one {room plan : Int} {n : ByteArray} (hn : namedB n = true) (hp : plan ≠ 1) : createD ⟨room, [], plan, false⟩ n = (⟨room, [⟨n, [], 0⟩], max (plan - 1) 0, false⟩, 0) := by
  simp [createD, beginD, hn, hp, findD]
theorem begin_one {room plan : Int} {n : ByteArray} {b : List UInt8} {d : Nat} (hn : namedB n = true) (hp : plan ≠ 1) : beginD ⟨room, [⟨n, b, d⟩], plan, false⟩ [n] false = (⟨room, [⟨n, b, d⟩], max (plan - 1) 0, false⟩, none) := by
  simp [beginD, hn, hp, findD]
theorem append_one {room plan : Int} {n : ByteArray} {b c : List UInt8} {d : Nat} (hn : namedB n = true) (hp : plan ≠ 1) (hr : (b.length : Int) + c.length ≤ room) :
    appendD ⟨room, [⟨n, b, d⟩], plan, false⟩ n c = (⟨room, [⟨n, b ++ c, d⟩], max (plan - 1) 0, false⟩, 0) := by
  rw [appendD, begin_one hn hp]
  simp only [sumD, List.map_cons, List.map_nil, List.sum_cons, List.sum_nil, Nat.add_zero, findD, if_true, setD]
  rw [if_neg (by omega)]
theorem sync_one {room plan : Int} {n : ByteArray} {b : List UInt8} {d : Nat} (hn : namedB n = true) (hp : plan ≠ 1) :
    syncD ⟨room, [⟨n, b, d⟩], plan, false⟩ n = (⟨room, [⟨n, b, b.length⟩], max (plan - 1) 0, false⟩, 0) := by
  rw [syncD, begin_one hn hp]
  simp [findD, setD]
theorem read_one {room plan : Int} {n : ByteArray} {b : List UInt8} {d : Nat} : readD ⟨room, [⟨n, b, d⟩], plan, false⟩ n = (b, 0) := by
  simp [readD, findD]
theorem append_planned {room : Int} {n : ByteArray} {fs : List DF} {c : List UInt8} : appendD ⟨room, fs, 1, false⟩ n c = (⟨room, fs, 0, true⟩, 10) := by simp [appendD, beginD]
theorem append_down {room plan : Int} {n : ByteArray} {fs : List DF} {c : List UInt8} : appendD ⟨room, fs, plan, true⟩ n c = (⟨room, fs, plan, true⟩, 10) := by simp [appendD, beginD]
theorem sync_down {room plan : Int} {n : ByteArray} {fs : List DF} : syncD ⟨room, fs, plan, true⟩ n = (⟨room, fs, plan, true⟩, 10) := by simp [syncD, beginD]
theorem read_down {room plan : Int} {n : ByteArray} {fs : List DF} : readD ⟨room, fs, plan, true⟩ n = ([], 10) := by simp [readD]
theorem sum_one {n : ByteArray} {b : List UInt8} {d : Nat} : sumD [⟨n, b, d⟩] = b.length := by simp [sumD]
theorem names_one {ss : List (List UInt8)} {n : ByteArray} {b : List UInt8} {d : Nat} (h1 : ss.Pairwise (· < ·)) (h2 : ∀ s : List UInt8, s ∈ ss ↔ ⟨s.toArray⟩ ∈ ([⟨n, b, d⟩] : List DF).map DF.name) : ss = [n.data.toList] := by
  have h3 : ∀ s : List UInt8, s ∈ ss ↔ s = n.data.toList := fun s => by
    rw [h2 s]
    simp only [List.map_cons, List.map_nil, List.mem_singleton]
    constructor
    · intro h; rw [← h]
    · intro h; rw [h]
  match ss, h1, h3 with
  | [], _, h3 => exact absurd ((h3 n.data.toList).2 rfl) (List.not_mem_nil)
  | [a], _, h3 => rw [(h3 a).1 (by simp)]
  | a :: b :: r, h1, h3 =>
    have ha := (h3 a).1 (by simp)
    have hb := (h3 b).1 (by simp)
    have := (List.pairwise_cons.1 h1).1 b (by simp)
    rw [ha, hb] at this
    exact absurd this (List.lt_irrefl _)
theorem crash_one {ss : List (List UInt8)} {room plan : Int} {down : Bool} {n : ByteArray} {b : List UInt8} {d : Nat} {ks : List Int} (h1 : ss.Pairwise (· < ·)) (h2 : ∀ s : List UInt8, s ∈ ss ↔ ⟨s.toArray⟩ ∈ ([⟨n, b, d⟩] : List DF).map DF.name) :
    crashN ⟨room, [⟨n, b, d⟩], plan, down⟩ ss ks ss.length = ⟨room, [⟨n, b.take (d + cutN ⟨n, b, d⟩ ks[0]?), d + cutN ⟨n, b, d⟩ ks[0]?⟩], 0, false⟩ := by
  obtain rfl := names_one h1 h2
  simp [crashN, crashStep, findD, setD]
end Go.Proofs.YtjhhmljebflanaaDoor
