/- value.blank: a payload without the field that its kind has. -/
import Derived.Test.YtpijpeocdlnhiaaGreatDoorKind
namespace Go.Proofs.YtpijpeocdlnhiaaGreatDoor
set_option linter.unusedVariables false
set_option linter.unusedSimpArgs false
open Go.RowKit

def blankV (v : VV) : VV :=
  if v.k = 1 then ⟨v.k, 0, v.f, v.s, v.a, v.l, v.c⟩ else if v.k = 2 then ⟨v.k, v.n, 0, v.s, v.a, v.l, v.c⟩ else if v.k = 3 then ⟨v.k, v.n, v.f, ⟨#[]⟩, v.a, v.l, v.c⟩ else if v.k = 4 then ⟨v.k, v.n, v.f, v.s, none, 0, 0⟩ else v

theorem kind_other {k : Int} (h : k < 0 ∨ 4 < k) : kindV k = .nilIface := by
  unfold kindV; rw [if_neg (by omega), if_neg (by omega), if_neg (by omega), if_neg (by omega), if_neg (by omega)]

theorem mem2 (w : World) (a b : Array Value) (s t : TypeId) : (((w.alloc (.cells a s)).alloc (.cells b t)).heap[w.heap.size]? = some (.cells a s (0, 0))) ∧ (((w.alloc (.cells a s)).alloc (.cells b t)).heap[w.heap.size + 1]? = some (.cells b t (0, 0))) ∧
    Below w.heap.size w ((w.alloc (.cells a s)).alloc (.cells b t)) ∧ ((w.alloc (.cells a s)).alloc (.cells b t)).heap.size = w.heap.size + 2 := by
  refine ⟨(Below.heap_alloc _ _ _ (by simp)).trans (heap_alloc_new w _), ?_, ((Below.refl _ _).alloc (Nat.le_refl _) _).alloc (by simp) _, by simp⟩
  have := heap_alloc_new (w.alloc (.cells a s)) (.cells b t)
  rwa [World.size_alloc] at this

set_option maxRecDepth 100000 in
set_option maxHeartbeats 1000000 in
theorem blank_any (v : VV) (w : World) :
    Calls Tryz.prog 45 #[v.val] w fun e w' => e = .returned (blankV v).val ∧ Below w.heap.size w w' := by
  obtain ⟨k, n, f, s, a, l, c⟩ := v
  have HM := Lib.hid (mem2 w #[.int .i64 k, .int .i64 n, .float .f64 f, .string s, .slice a l c] #[.int .i64 0, .int .i64 0, .float .f64 0, .string ⟨#[]⟩, .slice none 0 0] 26 26)
  have HO := Lib.hid (of_any k)
  have h6 : (k < 0 ∨ 4 < k) ∨ k = 0 ∨ k = 1 ∨ k = 2 ∨ k = 3 ∨ k = 4 := by omega
  rcases h6 with h | rfl | rfl | rfl | rfl | rfl
  · have hb : blankV ⟨k, n, f, s, a, l, c⟩ = ⟨k, n, f, s, a, l, c⟩ := by unfold blankV; simp only; rw [if_neg (by omega), if_neg (by omega), if_neg (by omega), if_neg (by omega)]
    rw [hb]
    rw [kind_other h] at HO
    clear hb h
    have ta1 : ∀ w, (Instr.typeAssert (.nilIface) 64 104 true).run Tryz.prog w = .ok (.tuple #[.agg #[], .bool false]) w := fun _ => by kernel_rfl
    have ta2 : ∀ w, (Instr.typeAssert (.nilIface) 64 105 true).run Tryz.prog w = .ok (.tuple #[.agg #[], .bool false]) w := fun _ => by kernel_rfl
    have ta3 : ∀ w, (Instr.typeAssert (.nilIface) 64 106 true).run Tryz.prog w = .ok (.tuple #[.agg #[], .bool false]) w := fun _ => by kernel_rfl
    have ta4 : ∀ w, (Instr.typeAssert (.nilIface) 64 107 true).run Tryz.prog w = .ok (.tuple #[.agg #[], .bool false]) w := fun _ => by kernel_rfl
    simp only [VV.val]
    obtain ⟨hx0, hx1, hx2, hx3, hx4⟩ := cells5 HM.out.1
    obtain ⟨hy0, hy1, hy2, hy3, hy4⟩ := cells5 HM.out.2.1
    obtain ⟨hf0, hf1, hf2, hf3, hf4⟩ := free5 HM.out.1
    obtain ⟨hg0, hg1, hg2, hg3, hg4⟩ := free5 HM.out.2.1
    go_enter Tryz.func45, Tryz.ntmps45
    go_wp2_with fail
    generalize (w.alloc (.cells #[.int .i64 k, .int .i64 n, .float .f64 f, .string s, .slice a l c] 26)).alloc (.cells #[.int .i64 0, .int .i64 0, .float .f64 0, .string ⟨#[]⟩, .slice none 0 0] 26) = wd at *
    refine (HO.out _).mono ?_
    rintro e w1 ⟨rfl, rfl⟩
    go_wp2
    have hW := HM.out.2.1
    have hB := HM.out.2.2.1
    have hS := heap_store (heap_store (heap_store (heap_store (heap_store hW 0 (.int .i64 k)) 1 (.int .i64 n)) 2 (.float .f64 f)) 3 (.string s)) 4 (.slice a l c)
    have hF := (((((hB.setCell (p := ⟨w.heap.size + 1, 0, none⟩) (by show w.heap.size ≤ w.heap.size + 1; omega) (.int .i64 k)).setCell (p := ⟨w.heap.size + 1, 1, none⟩) (by show w.heap.size ≤ w.heap.size + 1; omega) (.int .i64 n)).setCell (p := ⟨w.heap.size + 1, 2, none⟩) (by show w.heap.size ≤ w.heap.size + 1; omega) (.float .f64 f)).setCell (p := ⟨w.heap.size + 1, 3, none⟩) (by show w.heap.size ≤ w.heap.size + 1; omega) (.string s)).setCell (p := ⟨w.heap.size + 1, 4, none⟩) (by show w.heap.size ≤ w.heap.size + 1; omega) (.slice a l c))
    try simp only [Exit.inBlock, Exit.then]
    generalize (((((wd.setCell ⟨w.heap.size + 1, 0, none⟩ (.int .i64 k)).setCell ⟨w.heap.size + 1, 1, none⟩ (.int .i64 n)).setCell ⟨w.heap.size + 1, 2, none⟩ (.float .f64 f)).setCell ⟨w.heap.size + 1, 3, none⟩ (.string s)).setCell ⟨w.heap.size + 1, 4, none⟩ (.slice a l c)) = wf at hS hF ⊢
    refine bodyPost_ret (results_cell_row (P := Tryz.prog) rfl _ _ (w.heap.size + 1) 26 #[.int .i64 k, .int .i64 n, .float .f64 f, .string s, .slice a l c] (0, 0) _ rfl hS Tryz.underlying26 rfl rfl) rfl ?_
    exact ⟨rfl, hF⟩
  · have hb : blankV ⟨0, n, f, s, a, l, c⟩ = ⟨0, n, f, s, a, l, c⟩ := by unfold blankV; simp
    rw [hb]
    have hk : kindV 0 = .iface 103 (.agg #[]) := rfl
    rw [hk] at HO
    clear hb hk
    have ta1 : ∀ w, (Instr.typeAssert (.iface 103 (.agg #[])) 64 104 true).run Tryz.prog w = .ok (.tuple #[.agg #[], .bool false]) w := fun _ => by kernel_rfl
    have ta2 : ∀ w, (Instr.typeAssert (.iface 103 (.agg #[])) 64 105 true).run Tryz.prog w = .ok (.tuple #[.agg #[], .bool false]) w := fun _ => by kernel_rfl
    have ta3 : ∀ w, (Instr.typeAssert (.iface 103 (.agg #[])) 64 106 true).run Tryz.prog w = .ok (.tuple #[.agg #[], .bool false]) w := fun _ => by kernel_rfl
    have ta4 : ∀ w, (Instr.typeAssert (.iface 103 (.agg #[])) 64 107 true).run Tryz.prog w = .ok (.tuple #[.agg #[], .bool false]) w := fun _ => by kernel_rfl
    simp only [VV.val]
    obtain ⟨hx0, hx1, hx2, hx3, hx4⟩ := cells5 HM.out.1
    obtain ⟨hy0, hy1, hy2, hy3, hy4⟩ := cells5 HM.out.2.1
    obtain ⟨hf0, hf1, hf2, hf3, hf4⟩ := free5 HM.out.1
    obtain ⟨hg0, hg1, hg2, hg3, hg4⟩ := free5 HM.out.2.1
    go_enter Tryz.func45, Tryz.ntmps45
    go_wp2_with fail
    generalize (w.alloc (.cells #[.int .i64 0, .int .i64 n, .float .f64 f, .string s, .slice a l c] 26)).alloc (.cells #[.int .i64 0, .int .i64 0, .float .f64 0, .string ⟨#[]⟩, .slice none 0 0] 26) = wd at *
    refine (HO.out _).mono ?_
    rintro e w1 ⟨rfl, rfl⟩
    go_wp2
    have hW := HM.out.2.1
    have hB := HM.out.2.2.1
    have hS := heap_store (heap_store (heap_store (heap_store (heap_store hW 0 (.int .i64 0)) 1 (.int .i64 n)) 2 (.float .f64 f)) 3 (.string s)) 4 (.slice a l c)
    have hF := (((((hB.setCell (p := ⟨w.heap.size + 1, 0, none⟩) (by show w.heap.size ≤ w.heap.size + 1; omega) (.int .i64 0)).setCell (p := ⟨w.heap.size + 1, 1, none⟩) (by show w.heap.size ≤ w.heap.size + 1; omega) (.int .i64 n)).setCell (p := ⟨w.heap.size + 1, 2, none⟩) (by show w.heap.size ≤ w.heap.size + 1; omega) (.float .f64 f)).setCell (p := ⟨w.heap.size + 1, 3, none⟩) (by show w.heap.size ≤ w.heap.size + 1; omega) (.string s)).setCell (p := ⟨w.heap.size + 1, 4, none⟩) (by show w.heap.size ≤ w.heap.size + 1; omega) (.slice a l c))
    try simp only [Exit.inBlock, Exit.then]
    generalize (((((wd.setCell ⟨w.heap.size + 1, 0, none⟩ (.int .i64 0)).setCell ⟨w.heap.size + 1, 1, none⟩ (.int .i64 n)).setCell ⟨w.heap.size + 1, 2, none⟩ (.float .f64 f)).setCell ⟨w.heap.size + 1, 3, none⟩ (.string s)).setCell ⟨w.heap.size + 1, 4, none⟩ (.slice a l c)) = wf at hS hF ⊢
    refine bodyPost_ret (results_cell_row (P := Tryz.prog) rfl _ _ (w.heap.size + 1) 26 #[.int .i64 0, .int .i64 n, .float .f64 f, .string s, .slice a l c] (0, 0) _ rfl hS Tryz.underlying26 rfl rfl) rfl ?_
    exact ⟨rfl, hF⟩
  · have hb : blankV ⟨1, n, f, s, a, l, c⟩ = ⟨1, 0, f, s, a, l, c⟩ := by unfold blankV; simp
    rw [hb]
    have hk : kindV 1 = .iface 104 (.agg #[]) := rfl
    rw [hk] at HO
    clear hb hk
    have ta1 : ∀ w, (Instr.typeAssert (.iface 104 (.agg #[])) 64 104 true).run Tryz.prog w = .ok (.tuple #[.agg #[], .bool true]) w := fun _ => by kernel_rfl
    have ta2 : ∀ w, (Instr.typeAssert (.iface 104 (.agg #[])) 64 105 true).run Tryz.prog w = .ok (.tuple #[.agg #[], .bool false]) w := fun _ => by kernel_rfl
    have ta3 : ∀ w, (Instr.typeAssert (.iface 104 (.agg #[])) 64 106 true).run Tryz.prog w = .ok (.tuple #[.agg #[], .bool false]) w := fun _ => by kernel_rfl
    have ta4 : ∀ w, (Instr.typeAssert (.iface 104 (.agg #[])) 64 107 true).run Tryz.prog w = .ok (.tuple #[.agg #[], .bool false]) w := fun _ => by kernel_rfl
    simp only [VV.val]
    obtain ⟨hx0, hx1, hx2, hx3, hx4⟩ := cells5 HM.out.1
    obtain ⟨hy0, hy1, hy2, hy3, hy4⟩ := cells5 HM.out.2.1
    obtain ⟨hf0, hf1, hf2, hf3, hf4⟩ := free5 HM.out.1
    obtain ⟨hg0, hg1, hg2, hg3, hg4⟩ := free5 HM.out.2.1
    go_enter Tryz.func45, Tryz.ntmps45
    go_wp2_with fail
    generalize (w.alloc (.cells #[.int .i64 1, .int .i64 n, .float .f64 f, .string s, .slice a l c] 26)).alloc (.cells #[.int .i64 0, .int .i64 0, .float .f64 0, .string ⟨#[]⟩, .slice none 0 0] 26) = wd at *
    refine (HO.out _).mono ?_
    rintro e w1 ⟨rfl, rfl⟩
    go_wp2
    have hW : (wd.setCell ⟨w.heap.size, 1, none⟩ (.int .i64 0)).heap[w.heap.size + 1]? = _ := (Below.heap_setCell _ _ _ _ (by show w.heap.size + 1 ≠ w.heap.size; omega)).trans HM.out.2.1
    have hB : Below w.heap.size w (wd.setCell ⟨w.heap.size, 1, none⟩ (.int .i64 0)) := HM.out.2.2.1.setCell (Nat.le_refl _) _
    have hS := heap_store (heap_store (heap_store (heap_store (heap_store hW 0 (.int .i64 1)) 1 (.int .i64 0)) 2 (.float .f64 f)) 3 (.string s)) 4 (.slice a l c)
    have hF := (((((hB.setCell (p := ⟨w.heap.size + 1, 0, none⟩) (by show w.heap.size ≤ w.heap.size + 1; omega) (.int .i64 1)).setCell (p := ⟨w.heap.size + 1, 1, none⟩) (by show w.heap.size ≤ w.heap.size + 1; omega) (.int .i64 0)).setCell (p := ⟨w.heap.size + 1, 2, none⟩) (by show w.heap.size ≤ w.heap.size + 1; omega) (.float .f64 f)).setCell (p := ⟨w.heap.size + 1, 3, none⟩) (by show w.heap.size ≤ w.heap.size + 1; omega) (.string s)).setCell (p := ⟨w.heap.size + 1, 4, none⟩) (by show w.heap.size ≤ w.heap.size + 1; omega) (.slice a l c))
    try simp only [Exit.inBlock, Exit.then]
    generalize ((((((wd.setCell ⟨w.heap.size, 1, none⟩ (.int .i64 0)).setCell ⟨w.heap.size + 1, 0, none⟩ (.int .i64 1)).setCell ⟨w.heap.size + 1, 1, none⟩ (.int .i64 0)).setCell ⟨w.heap.size + 1, 2, none⟩ (.float .f64 f)).setCell ⟨w.heap.size + 1, 3, none⟩ (.string s)).setCell ⟨w.heap.size + 1, 4, none⟩ (.slice a l c)) = wf at hS hF ⊢
    refine bodyPost_ret (results_cell_row (P := Tryz.prog) rfl _ _ (w.heap.size + 1) 26 #[.int .i64 1, .int .i64 0, .float .f64 f, .string s, .slice a l c] (0, 0) _ rfl hS Tryz.underlying26 rfl rfl) rfl ?_
    exact ⟨rfl, hF⟩
  · have hb : blankV ⟨2, n, f, s, a, l, c⟩ = ⟨2, n, 0, s, a, l, c⟩ := by unfold blankV; simp
    rw [hb]
    have hk : kindV 2 = .iface 105 (.agg #[]) := rfl
    rw [hk] at HO
    clear hb hk
    have ta1 : ∀ w, (Instr.typeAssert (.iface 105 (.agg #[])) 64 104 true).run Tryz.prog w = .ok (.tuple #[.agg #[], .bool false]) w := fun _ => by kernel_rfl
    have ta2 : ∀ w, (Instr.typeAssert (.iface 105 (.agg #[])) 64 105 true).run Tryz.prog w = .ok (.tuple #[.agg #[], .bool true]) w := fun _ => by kernel_rfl
    have ta3 : ∀ w, (Instr.typeAssert (.iface 105 (.agg #[])) 64 106 true).run Tryz.prog w = .ok (.tuple #[.agg #[], .bool false]) w := fun _ => by kernel_rfl
    have ta4 : ∀ w, (Instr.typeAssert (.iface 105 (.agg #[])) 64 107 true).run Tryz.prog w = .ok (.tuple #[.agg #[], .bool false]) w := fun _ => by kernel_rfl
    simp only [VV.val]
    obtain ⟨hx0, hx1, hx2, hx3, hx4⟩ := cells5 HM.out.1
    obtain ⟨hy0, hy1, hy2, hy3, hy4⟩ := cells5 HM.out.2.1
    obtain ⟨hf0, hf1, hf2, hf3, hf4⟩ := free5 HM.out.1
    obtain ⟨hg0, hg1, hg2, hg3, hg4⟩ := free5 HM.out.2.1
    go_enter Tryz.func45, Tryz.ntmps45
    go_wp2_with fail
    generalize (w.alloc (.cells #[.int .i64 2, .int .i64 n, .float .f64 f, .string s, .slice a l c] 26)).alloc (.cells #[.int .i64 0, .int .i64 0, .float .f64 0, .string ⟨#[]⟩, .slice none 0 0] 26) = wd at *
    refine (HO.out _).mono ?_
    rintro e w1 ⟨rfl, rfl⟩
    go_wp2
    have hW : (wd.setCell ⟨w.heap.size, 2, none⟩ (.float .f64 0)).heap[w.heap.size + 1]? = _ := (Below.heap_setCell _ _ _ _ (by show w.heap.size + 1 ≠ w.heap.size; omega)).trans HM.out.2.1
    have hB : Below w.heap.size w (wd.setCell ⟨w.heap.size, 2, none⟩ (.float .f64 0)) := HM.out.2.2.1.setCell (Nat.le_refl _) _
    have hS := heap_store (heap_store (heap_store (heap_store (heap_store hW 0 (.int .i64 2)) 1 (.int .i64 n)) 2 (.float .f64 0)) 3 (.string s)) 4 (.slice a l c)
    have hF := (((((hB.setCell (p := ⟨w.heap.size + 1, 0, none⟩) (by show w.heap.size ≤ w.heap.size + 1; omega) (.int .i64 2)).setCell (p := ⟨w.heap.size + 1, 1, none⟩) (by show w.heap.size ≤ w.heap.size + 1; omega) (.int .i64 n)).setCell (p := ⟨w.heap.size + 1, 2, none⟩) (by show w.heap.size ≤ w.heap.size + 1; omega) (.float .f64 0)).setCell (p := ⟨w.heap.size + 1, 3, none⟩) (by show w.heap.size ≤ w.heap.size + 1; omega) (.string s)).setCell (p := ⟨w.heap.size + 1, 4, none⟩) (by show w.heap.size ≤ w.heap.size + 1; omega) (.slice a l c))
    try simp only [Exit.inBlock, Exit.then]
    generalize ((((((wd.setCell ⟨w.heap.size, 2, none⟩ (.float .f64 0)).setCell ⟨w.heap.size + 1, 0, none⟩ (.int .i64 2)).setCell ⟨w.heap.size + 1, 1, none⟩ (.int .i64 n)).setCell ⟨w.heap.size + 1, 2, none⟩ (.float .f64 0)).setCell ⟨w.heap.size + 1, 3, none⟩ (.string s)).setCell ⟨w.heap.size + 1, 4, none⟩ (.slice a l c)) = wf at hS hF ⊢
    refine bodyPost_ret (results_cell_row (P := Tryz.prog) rfl _ _ (w.heap.size + 1) 26 #[.int .i64 2, .int .i64 n, .float .f64 0, .string s, .slice a l c] (0, 0) _ rfl hS Tryz.underlying26 rfl rfl) rfl ?_
    exact ⟨rfl, hF⟩
  · have hb : blankV ⟨3, n, f, s, a, l, c⟩ = ⟨3, n, f, ⟨#[]⟩, a, l, c⟩ := by unfold blankV; simp
    rw [hb]
    have hk : kindV 3 = .iface 106 (.agg #[]) := rfl
    rw [hk] at HO
    clear hb hk
    have ta1 : ∀ w, (Instr.typeAssert (.iface 106 (.agg #[])) 64 104 true).run Tryz.prog w = .ok (.tuple #[.agg #[], .bool false]) w := fun _ => by kernel_rfl
    have ta2 : ∀ w, (Instr.typeAssert (.iface 106 (.agg #[])) 64 105 true).run Tryz.prog w = .ok (.tuple #[.agg #[], .bool false]) w := fun _ => by kernel_rfl
    have ta3 : ∀ w, (Instr.typeAssert (.iface 106 (.agg #[])) 64 106 true).run Tryz.prog w = .ok (.tuple #[.agg #[], .bool true]) w := fun _ => by kernel_rfl
    have ta4 : ∀ w, (Instr.typeAssert (.iface 106 (.agg #[])) 64 107 true).run Tryz.prog w = .ok (.tuple #[.agg #[], .bool false]) w := fun _ => by kernel_rfl
    simp only [VV.val]
    obtain ⟨hx0, hx1, hx2, hx3, hx4⟩ := cells5 HM.out.1
    obtain ⟨hy0, hy1, hy2, hy3, hy4⟩ := cells5 HM.out.2.1
    obtain ⟨hf0, hf1, hf2, hf3, hf4⟩ := free5 HM.out.1
    obtain ⟨hg0, hg1, hg2, hg3, hg4⟩ := free5 HM.out.2.1
    go_enter Tryz.func45, Tryz.ntmps45
    go_wp2_with fail
    generalize (w.alloc (.cells #[.int .i64 3, .int .i64 n, .float .f64 f, .string s, .slice a l c] 26)).alloc (.cells #[.int .i64 0, .int .i64 0, .float .f64 0, .string ⟨#[]⟩, .slice none 0 0] 26) = wd at *
    refine (HO.out _).mono ?_
    rintro e w1 ⟨rfl, rfl⟩
    go_wp2
    have hW : (wd.setCell ⟨w.heap.size, 3, none⟩ (.string ⟨#[]⟩)).heap[w.heap.size + 1]? = _ := (Below.heap_setCell _ _ _ _ (by show w.heap.size + 1 ≠ w.heap.size; omega)).trans HM.out.2.1
    have hB : Below w.heap.size w (wd.setCell ⟨w.heap.size, 3, none⟩ (.string ⟨#[]⟩)) := HM.out.2.2.1.setCell (Nat.le_refl _) _
    have hS := heap_store (heap_store (heap_store (heap_store (heap_store hW 0 (.int .i64 3)) 1 (.int .i64 n)) 2 (.float .f64 f)) 3 (.string ⟨#[]⟩)) 4 (.slice a l c)
    have hF := (((((hB.setCell (p := ⟨w.heap.size + 1, 0, none⟩) (by show w.heap.size ≤ w.heap.size + 1; omega) (.int .i64 3)).setCell (p := ⟨w.heap.size + 1, 1, none⟩) (by show w.heap.size ≤ w.heap.size + 1; omega) (.int .i64 n)).setCell (p := ⟨w.heap.size + 1, 2, none⟩) (by show w.heap.size ≤ w.heap.size + 1; omega) (.float .f64 f)).setCell (p := ⟨w.heap.size + 1, 3, none⟩) (by show w.heap.size ≤ w.heap.size + 1; omega) (.string ⟨#[]⟩)).setCell (p := ⟨w.heap.size + 1, 4, none⟩) (by show w.heap.size ≤ w.heap.size + 1; omega) (.slice a l c))
    try simp only [Exit.inBlock, Exit.then]
    generalize ((((((wd.setCell ⟨w.heap.size, 3, none⟩ (.string ⟨#[]⟩)).setCell ⟨w.heap.size + 1, 0, none⟩ (.int .i64 3)).setCell ⟨w.heap.size + 1, 1, none⟩ (.int .i64 n)).setCell ⟨w.heap.size + 1, 2, none⟩ (.float .f64 f)).setCell ⟨w.heap.size + 1, 3, none⟩ (.string ⟨#[]⟩)).setCell ⟨w.heap.size + 1, 4, none⟩ (.slice a l c)) = wf at hS hF ⊢
    refine bodyPost_ret (results_cell_row (P := Tryz.prog) rfl _ _ (w.heap.size + 1) 26 #[.int .i64 3, .int .i64 n, .float .f64 f, .string ⟨#[]⟩, .slice a l c] (0, 0) _ rfl hS Tryz.underlying26 rfl rfl) rfl ?_
    exact ⟨rfl, hF⟩
  · have hb : blankV ⟨4, n, f, s, a, l, c⟩ = ⟨4, n, f, s, none, 0, 0⟩ := by unfold blankV; simp
    rw [hb]
    have hk : kindV 4 = .iface 107 (.agg #[]) := rfl
    rw [hk] at HO
    clear hb hk
    have ta1 : ∀ w, (Instr.typeAssert (.iface 107 (.agg #[])) 64 104 true).run Tryz.prog w = .ok (.tuple #[.agg #[], .bool false]) w := fun _ => by kernel_rfl
    have ta2 : ∀ w, (Instr.typeAssert (.iface 107 (.agg #[])) 64 105 true).run Tryz.prog w = .ok (.tuple #[.agg #[], .bool false]) w := fun _ => by kernel_rfl
    have ta3 : ∀ w, (Instr.typeAssert (.iface 107 (.agg #[])) 64 106 true).run Tryz.prog w = .ok (.tuple #[.agg #[], .bool false]) w := fun _ => by kernel_rfl
    have ta4 : ∀ w, (Instr.typeAssert (.iface 107 (.agg #[])) 64 107 true).run Tryz.prog w = .ok (.tuple #[.agg #[], .bool true]) w := fun _ => by kernel_rfl
    simp only [VV.val]
    obtain ⟨hx0, hx1, hx2, hx3, hx4⟩ := cells5 HM.out.1
    obtain ⟨hy0, hy1, hy2, hy3, hy4⟩ := cells5 HM.out.2.1
    obtain ⟨hf0, hf1, hf2, hf3, hf4⟩ := free5 HM.out.1
    obtain ⟨hg0, hg1, hg2, hg3, hg4⟩ := free5 HM.out.2.1
    go_enter Tryz.func45, Tryz.ntmps45
    go_wp2_with fail
    generalize (w.alloc (.cells #[.int .i64 4, .int .i64 n, .float .f64 f, .string s, .slice a l c] 26)).alloc (.cells #[.int .i64 0, .int .i64 0, .float .f64 0, .string ⟨#[]⟩, .slice none 0 0] 26) = wd at *
    refine (HO.out _).mono ?_
    rintro e w1 ⟨rfl, rfl⟩
    go_wp2
    have hW : (wd.setCell ⟨w.heap.size, 4, none⟩ (.slice none 0 0)).heap[w.heap.size + 1]? = _ := (Below.heap_setCell _ _ _ _ (by show w.heap.size + 1 ≠ w.heap.size; omega)).trans HM.out.2.1
    have hB : Below w.heap.size w (wd.setCell ⟨w.heap.size, 4, none⟩ (.slice none 0 0)) := HM.out.2.2.1.setCell (Nat.le_refl _) _
    have hS := heap_store (heap_store (heap_store (heap_store (heap_store hW 0 (.int .i64 4)) 1 (.int .i64 n)) 2 (.float .f64 f)) 3 (.string s)) 4 (.slice none 0 0)
    have hF := (((((hB.setCell (p := ⟨w.heap.size + 1, 0, none⟩) (by show w.heap.size ≤ w.heap.size + 1; omega) (.int .i64 4)).setCell (p := ⟨w.heap.size + 1, 1, none⟩) (by show w.heap.size ≤ w.heap.size + 1; omega) (.int .i64 n)).setCell (p := ⟨w.heap.size + 1, 2, none⟩) (by show w.heap.size ≤ w.heap.size + 1; omega) (.float .f64 f)).setCell (p := ⟨w.heap.size + 1, 3, none⟩) (by show w.heap.size ≤ w.heap.size + 1; omega) (.string s)).setCell (p := ⟨w.heap.size + 1, 4, none⟩) (by show w.heap.size ≤ w.heap.size + 1; omega) (.slice none 0 0))
    try simp only [Exit.inBlock, Exit.then]
    generalize ((((((wd.setCell ⟨w.heap.size, 4, none⟩ (.slice none 0 0)).setCell ⟨w.heap.size + 1, 0, none⟩ (.int .i64 4)).setCell ⟨w.heap.size + 1, 1, none⟩ (.int .i64 n)).setCell ⟨w.heap.size + 1, 2, none⟩ (.float .f64 f)).setCell ⟨w.heap.size + 1, 3, none⟩ (.string s)).setCell ⟨w.heap.size + 1, 4, none⟩ (.slice none 0 0)) = wf at hS hF ⊢
    refine bodyPost_ret (results_cell_row (P := Tryz.prog) rfl _ _ (w.heap.size + 1) 26 #[.int .i64 4, .int .i64 n, .float .f64 f, .string s, .slice none 0 0] (0, 0) _ rfl hS Tryz.underlying26 rfl rfl) rfl ?_
    exact ⟨rfl, hF⟩
end Go.Proofs.YtpijpeocdlnhiaaGreatDoor
