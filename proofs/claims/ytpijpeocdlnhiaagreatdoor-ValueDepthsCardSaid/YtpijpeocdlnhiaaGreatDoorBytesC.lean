/- value.form and value.Bytes. Printed by a program. -/
import Derived.Test.YtpijpeocdlnhiaaGreatDoorBytesB
import Derived.Test.YtpijpeocdlnhiaaGreatDoorTopValid
import Derived.Test.YtpijpeocdlnhiaaGreatDoorTTextC
namespace Go.Proofs.YtpijpeocdlnhiaaGreatDoor
set_option linter.unusedVariables false
set_option linter.unusedSimpArgs false
open Go.RowKit

theorem row_step {wx X Y : World} {v : Value} {n : Nat} {xs : List Value} {e : TypeId} {size : Nat} (h : Hid (Below wx.heap.size wx X)) (hr : Row Y e size v n xs (fun k => X.heap.size ≤ k)) : Hid (Row Y e size v n xs (fun k => wx.heap.size ≤ k)) :=
  hr.mono (fun k hk => Nat.le_trans h.out.size hk)
theorem chg_step {wx X Y : World} (h : Hid (Below wx.heap.size wx X)) (hc : Chg (fun k => wx.heap.size ≤ k) X Y) : Hid (Below wx.heap.size wx Y) :=
  h.out.trans (hc.toBelow (B := wx.heap.size) h.out.size (fun n hn hs => by omega))
theorem row_after {wx X Y : World} {v : Value} {n : Nat} {xs : List Value} {e : TypeId} {size : Nat} (h : Hid (Below wx.heap.size wx X)) (hr : Row Y e size v n xs (fun k => wx.heap.size ≤ k ∨ X.heap.size ≤ k)) : Hid (Row Y e size v n xs (fun k => wx.heap.size ≤ k)) :=
  hr.mono (fun k hk => by have := h.out.size; rcases hk with hk | hk; exact hk; omega)

theorem kb_0 (W : World) : (method 342 103 (.agg #[]) "clockwork/value.bytes").run Tryz.prog W = .ok (210, .agg #[]) W := by kernel_rfl
theorem kw_0 : kindV 0 = .iface 103 (.agg #[]) := rfl
theorem kb_1 (W : World) : (method 342 104 (.agg #[]) "clockwork/value.bytes").run Tryz.prog W = .ok (213, .agg #[]) W := by kernel_rfl
theorem kw_1 : kindV 1 = .iface 104 (.agg #[]) := rfl
theorem kb_2 (W : World) : (method 342 105 (.agg #[]) "clockwork/value.bytes").run Tryz.prog W = .ok (217, .agg #[]) W := by kernel_rfl
theorem kw_2 : kindV 2 = .iface 105 (.agg #[]) := rfl
theorem kb_3 (W : World) : (method 342 106 (.agg #[]) "clockwork/value.bytes").run Tryz.prog W = .ok (220, .agg #[]) W := by kernel_rfl
theorem kw_3 : kindV 3 = .iface 106 (.agg #[]) := rfl
theorem kb_4 (W : World) : (method 342 107 (.agg #[]) "clockwork/value.bytes").run Tryz.prog W = .ok (224, .agg #[]) W := by kernel_rfl
theorem kw_4 : kindV 4 = .iface 107 (.agg #[]) := rfl
set_option maxRecDepth 100000 in
set_option maxHeartbeats 4000000 in
theorem form_0 (n : Int) (f : Nat) (s : ByteArray) (a : Option Addr) (l c : Nat) (w : World) (B : List UInt8) (hB : B.length ≤ 1000000)
    (hC : ∀ W, Below w.heap.size w W → Calls Tryz.prog 210 #[.agg #[], .agg #[.int .i64 0, .int .i64 n, .float .f64 f, .string s, .slice a l c]] W (BytesP W B)) :
    Calls Tryz.prog 43 #[.agg #[.int .i64 0, .int .i64 n, .float .f64 f, .string s, .slice a l c]] w (BytesP w (uintL 0 ++ B)) := by
  have HU : Hid (∀ W, Calls Tryz.prog 72 #[.int .u64 0] W (BytesP W (uintL 0))) := fun W => uint_any 0 (by decide) W
  have hU10 := uintL_ten (x := 0) (by decide)
  have HBA := Lib.hid (byts_append (uintL 0) B)
  have hl : (uintL 0 ++ B).length = (uintL 0).length + B.length := List.length_append
  unfold BytesP
  rw [hl, HBA.out]
  clear hl HBA
  generalize uintL 0 = U at *
  have HC := Lib.hid hC
  clear hC
  have HXx : Hid ((w.alloc (.cells #[.int .i64 0, .int .i64 n, .float .f64 f, .string s, .slice a l c] 26)).heap[w.heap.size]? = some (.cells #[.int .i64 0, .int .i64 n, .float .f64 f, .string s, .slice a l c] 26 (0, 0))) := heap_alloc_new w _
  have HBx : Hid (Below w.heap.size w (w.alloc (.cells #[.int .i64 0, .int .i64 n, .float .f64 f, .string s, .slice a l c] 26))) := (Below.refl _ _).alloc (Nat.le_refl _) _
  have HK := Lib.hid kw_0
  have hmeth := kb_0
  go_enter Tryz.func43, Tryz.ntmps43
  go_upto_region 1 with fail
  generalize (w.alloc (.cells #[.int .i64 0, .int .i64 n, .float .f64 f, .string s, .slice a l c] 26)) = wx at *
  have HKS : Hid (∀ w', Hid (Below wx.heap.size wx w') → (w'.cell? ⟨w.heap.size, 0, none⟩ = some (.int .i64 0) ∧ w'.cell? ⟨w.heap.size, 1, none⟩ = some (.int .i64 n) ∧ w'.cell? ⟨w.heap.size, 2, none⟩ = some (.float .f64 f) ∧ w'.cell? ⟨w.heap.size, 3, none⟩ = some (.string s) ∧ w'.cell? ⟨w.heap.size, 4, none⟩ = some (.slice a l c))) := fun w' hb =>
    cells5 ((hb.out.block _ (lt_of_heap HXx.out)).trans HXx.out)
  have HB0 : Hid (Below wx.heap.size wx wx.drew) := (Below.refl _ _).drew
  have HB00 : Hid (Below wx.heap.size wx wx) := Below.refl _ _
  have HCC : Hid (∀ W, Hid (Below wx.heap.size wx W) → Calls Tryz.prog 210 #[.agg #[], .agg #[.int .i64 0, .int .i64 n, .float .f64 f, .string s, .slice a l c]] W (BytesP W B)) := fun W hW => HC.out W (HBx.out.trans (hW.out.mono HBx.out.size))
  clear HC
  go_region_held3 (fun w' => w'.cell? ⟨w.heap.size, 0, none⟩ = some (.int .i64 0) ∧ w'.cell? ⟨w.heap.size, 1, none⟩ = some (.int .i64 n) ∧ w'.cell? ⟨w.heap.size, 2, none⟩ = some (.float .f64 f) ∧ w'.cell? ⟨w.heap.size, 3, none⟩ = some (.string s) ∧ w'.cell? ⟨w.heap.size, 4, none⟩ = some (.slice a l c)) (exact HKS.out _ (by assumption))
    (first
    | (go_at_call 72; refine (HU.out _).mono ?_; rintro e wu ⟨ua, uc, rfl, hur, hub⟩
       have HRu := row_step (wx := wx) (by assumption) hur
       have HBu := bel_stepT (w0 := wx) (by assumption) hub
       have HUB := Lib.hid hub
       clear hub hur)
    | (go_at_call 39; refine (of_any 0 _).mono ?_; rintro e w3 ⟨rfl, rfl⟩; rw [HK.out])
    | (go_at_call 210; refine (HCC.out _ (by assumption)).mono ?_; rintro e wb ⟨ba, bc, rfl, hbr, hbb⟩
       have HRb := row_step (wx := wx) (by assumption) hbr
       have HBb := bel_stepT (w0 := wx) (by assumption) hbb
       have HBB := Lib.hid hbb
       clear hbb hbr)
    | (first
         | refine step_row elemU8 rfl rfl (S := fun k => wx.heap.size ≤ k) (v := .slice ua U.length uc) (n := U.length) (xs := byts U) rfl (HRu.out.frame (fun k _ hk => HBB.out.block k hk)) (y := .slice ba B.length bc) (m := B.length) (news := byts B) rfl HRb.out.reads (byts_one B) (by unfold maxLen; omega) (by omega) ?_
         | refine step_row elemU8 rfl rfl (S := fun k => wx.heap.size ≤ k) (v := .slice ua U.length uc) (n := U.length) (xs := byts U) rfl HRu.out (y := .slice ba B.length bc) (m := B.length) (news := byts B) rfl (HRb.out.frame (fun k _ hk => HUB.out.block k hk)).reads (byts_one B) (by unfold maxLen; omega) (by omega) ?_
       intro v5 w5 hr5 hch5
       obtain ⟨a5, c5, rfl⟩ : ∃ a5 c5, v5 = .slice a5 (U.length + B.length) c5 := (by obtain ⟨-, a5, c5, h, -⟩ := hr5.reads; exact ⟨a5, c5, h⟩)
       have HB5 : Hid (Below wx.heap.size wx w5) := chg_step (by assumption) hch5
       have HR5 := row_after (wx := wx) (by assumption) hr5
       clear hr5 hch5)
    | fail)
  all_goals
    have hs5 := HB5.out.size
    have hsx := HBx.out.size
    go_wp2_with fail
    go_ret
    exact ⟨a5, c5, rfl, HR5.out.mono (fun k hk => Nat.le_trans hsx hk), HBx.out.trans (HB5.out.mono hsx)⟩
set_option maxRecDepth 100000 in
set_option maxHeartbeats 4000000 in
theorem form_1 (n : Int) (f : Nat) (s : ByteArray) (a : Option Addr) (l c : Nat) (w : World) (B : List UInt8) (hB : B.length ≤ 1000000)
    (hC : ∀ W, Below w.heap.size w W → Calls Tryz.prog 213 #[.agg #[], .agg #[.int .i64 1, .int .i64 n, .float .f64 f, .string s, .slice a l c]] W (BytesP W B)) :
    Calls Tryz.prog 43 #[.agg #[.int .i64 1, .int .i64 n, .float .f64 f, .string s, .slice a l c]] w (BytesP w (uintL 1 ++ B)) := by
  have HU : Hid (∀ W, Calls Tryz.prog 72 #[.int .u64 1] W (BytesP W (uintL 1))) := fun W => uint_any 1 (by decide) W
  have hU10 := uintL_ten (x := 1) (by decide)
  have HBA := Lib.hid (byts_append (uintL 1) B)
  have hl : (uintL 1 ++ B).length = (uintL 1).length + B.length := List.length_append
  unfold BytesP
  rw [hl, HBA.out]
  clear hl HBA
  generalize uintL 1 = U at *
  have HC := Lib.hid hC
  clear hC
  have HXx : Hid ((w.alloc (.cells #[.int .i64 1, .int .i64 n, .float .f64 f, .string s, .slice a l c] 26)).heap[w.heap.size]? = some (.cells #[.int .i64 1, .int .i64 n, .float .f64 f, .string s, .slice a l c] 26 (0, 0))) := heap_alloc_new w _
  have HBx : Hid (Below w.heap.size w (w.alloc (.cells #[.int .i64 1, .int .i64 n, .float .f64 f, .string s, .slice a l c] 26))) := (Below.refl _ _).alloc (Nat.le_refl _) _
  have HK := Lib.hid kw_1
  have hmeth := kb_1
  go_enter Tryz.func43, Tryz.ntmps43
  go_upto_region 1 with fail
  generalize (w.alloc (.cells #[.int .i64 1, .int .i64 n, .float .f64 f, .string s, .slice a l c] 26)) = wx at *
  have HKS : Hid (∀ w', Hid (Below wx.heap.size wx w') → (w'.cell? ⟨w.heap.size, 0, none⟩ = some (.int .i64 1) ∧ w'.cell? ⟨w.heap.size, 1, none⟩ = some (.int .i64 n) ∧ w'.cell? ⟨w.heap.size, 2, none⟩ = some (.float .f64 f) ∧ w'.cell? ⟨w.heap.size, 3, none⟩ = some (.string s) ∧ w'.cell? ⟨w.heap.size, 4, none⟩ = some (.slice a l c))) := fun w' hb =>
    cells5 ((hb.out.block _ (lt_of_heap HXx.out)).trans HXx.out)
  have HB0 : Hid (Below wx.heap.size wx wx.drew) := (Below.refl _ _).drew
  have HB00 : Hid (Below wx.heap.size wx wx) := Below.refl _ _
  have HCC : Hid (∀ W, Hid (Below wx.heap.size wx W) → Calls Tryz.prog 213 #[.agg #[], .agg #[.int .i64 1, .int .i64 n, .float .f64 f, .string s, .slice a l c]] W (BytesP W B)) := fun W hW => HC.out W (HBx.out.trans (hW.out.mono HBx.out.size))
  clear HC
  go_region_held3 (fun w' => w'.cell? ⟨w.heap.size, 0, none⟩ = some (.int .i64 1) ∧ w'.cell? ⟨w.heap.size, 1, none⟩ = some (.int .i64 n) ∧ w'.cell? ⟨w.heap.size, 2, none⟩ = some (.float .f64 f) ∧ w'.cell? ⟨w.heap.size, 3, none⟩ = some (.string s) ∧ w'.cell? ⟨w.heap.size, 4, none⟩ = some (.slice a l c)) (exact HKS.out _ (by assumption))
    (first
    | (go_at_call 72; refine (HU.out _).mono ?_; rintro e wu ⟨ua, uc, rfl, hur, hub⟩
       have HRu := row_step (wx := wx) (by assumption) hur
       have HBu := bel_stepT (w0 := wx) (by assumption) hub
       have HUB := Lib.hid hub
       clear hub hur)
    | (go_at_call 39; refine (of_any 1 _).mono ?_; rintro e w3 ⟨rfl, rfl⟩; rw [HK.out])
    | (go_at_call 213; refine (HCC.out _ (by assumption)).mono ?_; rintro e wb ⟨ba, bc, rfl, hbr, hbb⟩
       have HRb := row_step (wx := wx) (by assumption) hbr
       have HBb := bel_stepT (w0 := wx) (by assumption) hbb
       have HBB := Lib.hid hbb
       clear hbb hbr)
    | (first
         | refine step_row elemU8 rfl rfl (S := fun k => wx.heap.size ≤ k) (v := .slice ua U.length uc) (n := U.length) (xs := byts U) rfl (HRu.out.frame (fun k _ hk => HBB.out.block k hk)) (y := .slice ba B.length bc) (m := B.length) (news := byts B) rfl HRb.out.reads (byts_one B) (by unfold maxLen; omega) (by omega) ?_
         | refine step_row elemU8 rfl rfl (S := fun k => wx.heap.size ≤ k) (v := .slice ua U.length uc) (n := U.length) (xs := byts U) rfl HRu.out (y := .slice ba B.length bc) (m := B.length) (news := byts B) rfl (HRb.out.frame (fun k _ hk => HUB.out.block k hk)).reads (byts_one B) (by unfold maxLen; omega) (by omega) ?_
       intro v5 w5 hr5 hch5
       obtain ⟨a5, c5, rfl⟩ : ∃ a5 c5, v5 = .slice a5 (U.length + B.length) c5 := (by obtain ⟨-, a5, c5, h, -⟩ := hr5.reads; exact ⟨a5, c5, h⟩)
       have HB5 : Hid (Below wx.heap.size wx w5) := chg_step (by assumption) hch5
       have HR5 := row_after (wx := wx) (by assumption) hr5
       clear hr5 hch5)
    | fail)
  all_goals
    have hs5 := HB5.out.size
    have hsx := HBx.out.size
    go_wp2_with fail
    go_ret
    exact ⟨a5, c5, rfl, HR5.out.mono (fun k hk => Nat.le_trans hsx hk), HBx.out.trans (HB5.out.mono hsx)⟩
set_option maxRecDepth 100000 in
set_option maxHeartbeats 4000000 in
theorem form_2 (n : Int) (f : Nat) (s : ByteArray) (a : Option Addr) (l c : Nat) (w : World) (B : List UInt8) (hB : B.length ≤ 1000000)
    (hC : ∀ W, Below w.heap.size w W → Calls Tryz.prog 217 #[.agg #[], .agg #[.int .i64 2, .int .i64 n, .float .f64 f, .string s, .slice a l c]] W (BytesP W B)) :
    Calls Tryz.prog 43 #[.agg #[.int .i64 2, .int .i64 n, .float .f64 f, .string s, .slice a l c]] w (BytesP w (uintL 2 ++ B)) := by
  have HU : Hid (∀ W, Calls Tryz.prog 72 #[.int .u64 2] W (BytesP W (uintL 2))) := fun W => uint_any 2 (by decide) W
  have hU10 := uintL_ten (x := 2) (by decide)
  have HBA := Lib.hid (byts_append (uintL 2) B)
  have hl : (uintL 2 ++ B).length = (uintL 2).length + B.length := List.length_append
  unfold BytesP
  rw [hl, HBA.out]
  clear hl HBA
  generalize uintL 2 = U at *
  have HC := Lib.hid hC
  clear hC
  have HXx : Hid ((w.alloc (.cells #[.int .i64 2, .int .i64 n, .float .f64 f, .string s, .slice a l c] 26)).heap[w.heap.size]? = some (.cells #[.int .i64 2, .int .i64 n, .float .f64 f, .string s, .slice a l c] 26 (0, 0))) := heap_alloc_new w _
  have HBx : Hid (Below w.heap.size w (w.alloc (.cells #[.int .i64 2, .int .i64 n, .float .f64 f, .string s, .slice a l c] 26))) := (Below.refl _ _).alloc (Nat.le_refl _) _
  have HK := Lib.hid kw_2
  have hmeth := kb_2
  go_enter Tryz.func43, Tryz.ntmps43
  go_upto_region 1 with fail
  generalize (w.alloc (.cells #[.int .i64 2, .int .i64 n, .float .f64 f, .string s, .slice a l c] 26)) = wx at *
  have HKS : Hid (∀ w', Hid (Below wx.heap.size wx w') → (w'.cell? ⟨w.heap.size, 0, none⟩ = some (.int .i64 2) ∧ w'.cell? ⟨w.heap.size, 1, none⟩ = some (.int .i64 n) ∧ w'.cell? ⟨w.heap.size, 2, none⟩ = some (.float .f64 f) ∧ w'.cell? ⟨w.heap.size, 3, none⟩ = some (.string s) ∧ w'.cell? ⟨w.heap.size, 4, none⟩ = some (.slice a l c))) := fun w' hb =>
    cells5 ((hb.out.block _ (lt_of_heap HXx.out)).trans HXx.out)
  have HB0 : Hid (Below wx.heap.size wx wx.drew) := (Below.refl _ _).drew
  have HB00 : Hid (Below wx.heap.size wx wx) := Below.refl _ _
  have HCC : Hid (∀ W, Hid (Below wx.heap.size wx W) → Calls Tryz.prog 217 #[.agg #[], .agg #[.int .i64 2, .int .i64 n, .float .f64 f, .string s, .slice a l c]] W (BytesP W B)) := fun W hW => HC.out W (HBx.out.trans (hW.out.mono HBx.out.size))
  clear HC
  go_region_held3 (fun w' => w'.cell? ⟨w.heap.size, 0, none⟩ = some (.int .i64 2) ∧ w'.cell? ⟨w.heap.size, 1, none⟩ = some (.int .i64 n) ∧ w'.cell? ⟨w.heap.size, 2, none⟩ = some (.float .f64 f) ∧ w'.cell? ⟨w.heap.size, 3, none⟩ = some (.string s) ∧ w'.cell? ⟨w.heap.size, 4, none⟩ = some (.slice a l c)) (exact HKS.out _ (by assumption))
    (first
    | (go_at_call 72; refine (HU.out _).mono ?_; rintro e wu ⟨ua, uc, rfl, hur, hub⟩
       have HRu := row_step (wx := wx) (by assumption) hur
       have HBu := bel_stepT (w0 := wx) (by assumption) hub
       have HUB := Lib.hid hub
       clear hub hur)
    | (go_at_call 39; refine (of_any 2 _).mono ?_; rintro e w3 ⟨rfl, rfl⟩; rw [HK.out])
    | (go_at_call 217; refine (HCC.out _ (by assumption)).mono ?_; rintro e wb ⟨ba, bc, rfl, hbr, hbb⟩
       have HRb := row_step (wx := wx) (by assumption) hbr
       have HBb := bel_stepT (w0 := wx) (by assumption) hbb
       have HBB := Lib.hid hbb
       clear hbb hbr)
    | (first
         | refine step_row elemU8 rfl rfl (S := fun k => wx.heap.size ≤ k) (v := .slice ua U.length uc) (n := U.length) (xs := byts U) rfl (HRu.out.frame (fun k _ hk => HBB.out.block k hk)) (y := .slice ba B.length bc) (m := B.length) (news := byts B) rfl HRb.out.reads (byts_one B) (by unfold maxLen; omega) (by omega) ?_
         | refine step_row elemU8 rfl rfl (S := fun k => wx.heap.size ≤ k) (v := .slice ua U.length uc) (n := U.length) (xs := byts U) rfl HRu.out (y := .slice ba B.length bc) (m := B.length) (news := byts B) rfl (HRb.out.frame (fun k _ hk => HUB.out.block k hk)).reads (byts_one B) (by unfold maxLen; omega) (by omega) ?_
       intro v5 w5 hr5 hch5
       obtain ⟨a5, c5, rfl⟩ : ∃ a5 c5, v5 = .slice a5 (U.length + B.length) c5 := (by obtain ⟨-, a5, c5, h, -⟩ := hr5.reads; exact ⟨a5, c5, h⟩)
       have HB5 : Hid (Below wx.heap.size wx w5) := chg_step (by assumption) hch5
       have HR5 := row_after (wx := wx) (by assumption) hr5
       clear hr5 hch5)
    | fail)
  all_goals
    have hs5 := HB5.out.size
    have hsx := HBx.out.size
    go_wp2_with fail
    go_ret
    exact ⟨a5, c5, rfl, HR5.out.mono (fun k hk => Nat.le_trans hsx hk), HBx.out.trans (HB5.out.mono hsx)⟩
set_option maxRecDepth 100000 in
set_option maxHeartbeats 4000000 in
theorem form_3 (n : Int) (f : Nat) (s : ByteArray) (a : Option Addr) (l c : Nat) (w : World) (B : List UInt8) (hB : B.length ≤ 1000000)
    (hC : ∀ W, Below w.heap.size w W → Calls Tryz.prog 220 #[.agg #[], .agg #[.int .i64 3, .int .i64 n, .float .f64 f, .string s, .slice a l c]] W (BytesP W B)) :
    Calls Tryz.prog 43 #[.agg #[.int .i64 3, .int .i64 n, .float .f64 f, .string s, .slice a l c]] w (BytesP w (uintL 3 ++ B)) := by
  have HU : Hid (∀ W, Calls Tryz.prog 72 #[.int .u64 3] W (BytesP W (uintL 3))) := fun W => uint_any 3 (by decide) W
  have hU10 := uintL_ten (x := 3) (by decide)
  have HBA := Lib.hid (byts_append (uintL 3) B)
  have hl : (uintL 3 ++ B).length = (uintL 3).length + B.length := List.length_append
  unfold BytesP
  rw [hl, HBA.out]
  clear hl HBA
  generalize uintL 3 = U at *
  have HC := Lib.hid hC
  clear hC
  have HXx : Hid ((w.alloc (.cells #[.int .i64 3, .int .i64 n, .float .f64 f, .string s, .slice a l c] 26)).heap[w.heap.size]? = some (.cells #[.int .i64 3, .int .i64 n, .float .f64 f, .string s, .slice a l c] 26 (0, 0))) := heap_alloc_new w _
  have HBx : Hid (Below w.heap.size w (w.alloc (.cells #[.int .i64 3, .int .i64 n, .float .f64 f, .string s, .slice a l c] 26))) := (Below.refl _ _).alloc (Nat.le_refl _) _
  have HK := Lib.hid kw_3
  have hmeth := kb_3
  go_enter Tryz.func43, Tryz.ntmps43
  go_upto_region 1 with fail
  generalize (w.alloc (.cells #[.int .i64 3, .int .i64 n, .float .f64 f, .string s, .slice a l c] 26)) = wx at *
  have HKS : Hid (∀ w', Hid (Below wx.heap.size wx w') → (w'.cell? ⟨w.heap.size, 0, none⟩ = some (.int .i64 3) ∧ w'.cell? ⟨w.heap.size, 1, none⟩ = some (.int .i64 n) ∧ w'.cell? ⟨w.heap.size, 2, none⟩ = some (.float .f64 f) ∧ w'.cell? ⟨w.heap.size, 3, none⟩ = some (.string s) ∧ w'.cell? ⟨w.heap.size, 4, none⟩ = some (.slice a l c))) := fun w' hb =>
    cells5 ((hb.out.block _ (lt_of_heap HXx.out)).trans HXx.out)
  have HB0 : Hid (Below wx.heap.size wx wx.drew) := (Below.refl _ _).drew
  have HB00 : Hid (Below wx.heap.size wx wx) := Below.refl _ _
  have HCC : Hid (∀ W, Hid (Below wx.heap.size wx W) → Calls Tryz.prog 220 #[.agg #[], .agg #[.int .i64 3, .int .i64 n, .float .f64 f, .string s, .slice a l c]] W (BytesP W B)) := fun W hW => HC.out W (HBx.out.trans (hW.out.mono HBx.out.size))
  clear HC
  go_region_held3 (fun w' => w'.cell? ⟨w.heap.size, 0, none⟩ = some (.int .i64 3) ∧ w'.cell? ⟨w.heap.size, 1, none⟩ = some (.int .i64 n) ∧ w'.cell? ⟨w.heap.size, 2, none⟩ = some (.float .f64 f) ∧ w'.cell? ⟨w.heap.size, 3, none⟩ = some (.string s) ∧ w'.cell? ⟨w.heap.size, 4, none⟩ = some (.slice a l c)) (exact HKS.out _ (by assumption))
    (first
    | (go_at_call 72; refine (HU.out _).mono ?_; rintro e wu ⟨ua, uc, rfl, hur, hub⟩
       have HRu := row_step (wx := wx) (by assumption) hur
       have HBu := bel_stepT (w0 := wx) (by assumption) hub
       have HUB := Lib.hid hub
       clear hub hur)
    | (go_at_call 39; refine (of_any 3 _).mono ?_; rintro e w3 ⟨rfl, rfl⟩; rw [HK.out])
    | (go_at_call 220; refine (HCC.out _ (by assumption)).mono ?_; rintro e wb ⟨ba, bc, rfl, hbr, hbb⟩
       have HRb := row_step (wx := wx) (by assumption) hbr
       have HBb := bel_stepT (w0 := wx) (by assumption) hbb
       have HBB := Lib.hid hbb
       clear hbb hbr)
    | (first
         | refine step_row elemU8 rfl rfl (S := fun k => wx.heap.size ≤ k) (v := .slice ua U.length uc) (n := U.length) (xs := byts U) rfl (HRu.out.frame (fun k _ hk => HBB.out.block k hk)) (y := .slice ba B.length bc) (m := B.length) (news := byts B) rfl HRb.out.reads (byts_one B) (by unfold maxLen; omega) (by omega) ?_
         | refine step_row elemU8 rfl rfl (S := fun k => wx.heap.size ≤ k) (v := .slice ua U.length uc) (n := U.length) (xs := byts U) rfl HRu.out (y := .slice ba B.length bc) (m := B.length) (news := byts B) rfl (HRb.out.frame (fun k _ hk => HUB.out.block k hk)).reads (byts_one B) (by unfold maxLen; omega) (by omega) ?_
       intro v5 w5 hr5 hch5
       obtain ⟨a5, c5, rfl⟩ : ∃ a5 c5, v5 = .slice a5 (U.length + B.length) c5 := (by obtain ⟨-, a5, c5, h, -⟩ := hr5.reads; exact ⟨a5, c5, h⟩)
       have HB5 : Hid (Below wx.heap.size wx w5) := chg_step (by assumption) hch5
       have HR5 := row_after (wx := wx) (by assumption) hr5
       clear hr5 hch5)
    | fail)
  all_goals
    have hs5 := HB5.out.size
    have hsx := HBx.out.size
    go_wp2_with fail
    go_ret
    exact ⟨a5, c5, rfl, HR5.out.mono (fun k hk => Nat.le_trans hsx hk), HBx.out.trans (HB5.out.mono hsx)⟩
set_option maxRecDepth 100000 in
set_option maxHeartbeats 4000000 in
theorem form_4 (n : Int) (f : Nat) (s : ByteArray) (a : Option Addr) (l c : Nat) (w : World) (B : List UInt8) (hB : B.length ≤ 1000000)
    (hC : ∀ W, Below w.heap.size w W → Calls Tryz.prog 224 #[.agg #[], .agg #[.int .i64 4, .int .i64 n, .float .f64 f, .string s, .slice a l c]] W (BytesP W B)) :
    Calls Tryz.prog 43 #[.agg #[.int .i64 4, .int .i64 n, .float .f64 f, .string s, .slice a l c]] w (BytesP w (uintL 4 ++ B)) := by
  have HU : Hid (∀ W, Calls Tryz.prog 72 #[.int .u64 4] W (BytesP W (uintL 4))) := fun W => uint_any 4 (by decide) W
  have hU10 := uintL_ten (x := 4) (by decide)
  have HBA := Lib.hid (byts_append (uintL 4) B)
  have hl : (uintL 4 ++ B).length = (uintL 4).length + B.length := List.length_append
  unfold BytesP
  rw [hl, HBA.out]
  clear hl HBA
  generalize uintL 4 = U at *
  have HC := Lib.hid hC
  clear hC
  have HXx : Hid ((w.alloc (.cells #[.int .i64 4, .int .i64 n, .float .f64 f, .string s, .slice a l c] 26)).heap[w.heap.size]? = some (.cells #[.int .i64 4, .int .i64 n, .float .f64 f, .string s, .slice a l c] 26 (0, 0))) := heap_alloc_new w _
  have HBx : Hid (Below w.heap.size w (w.alloc (.cells #[.int .i64 4, .int .i64 n, .float .f64 f, .string s, .slice a l c] 26))) := (Below.refl _ _).alloc (Nat.le_refl _) _
  have HK := Lib.hid kw_4
  have hmeth := kb_4
  go_enter Tryz.func43, Tryz.ntmps43
  go_upto_region 1 with fail
  generalize (w.alloc (.cells #[.int .i64 4, .int .i64 n, .float .f64 f, .string s, .slice a l c] 26)) = wx at *
  have HKS : Hid (∀ w', Hid (Below wx.heap.size wx w') → (w'.cell? ⟨w.heap.size, 0, none⟩ = some (.int .i64 4) ∧ w'.cell? ⟨w.heap.size, 1, none⟩ = some (.int .i64 n) ∧ w'.cell? ⟨w.heap.size, 2, none⟩ = some (.float .f64 f) ∧ w'.cell? ⟨w.heap.size, 3, none⟩ = some (.string s) ∧ w'.cell? ⟨w.heap.size, 4, none⟩ = some (.slice a l c))) := fun w' hb =>
    cells5 ((hb.out.block _ (lt_of_heap HXx.out)).trans HXx.out)
  have HB0 : Hid (Below wx.heap.size wx wx.drew) := (Below.refl _ _).drew
  have HB00 : Hid (Below wx.heap.size wx wx) := Below.refl _ _
  have HCC : Hid (∀ W, Hid (Below wx.heap.size wx W) → Calls Tryz.prog 224 #[.agg #[], .agg #[.int .i64 4, .int .i64 n, .float .f64 f, .string s, .slice a l c]] W (BytesP W B)) := fun W hW => HC.out W (HBx.out.trans (hW.out.mono HBx.out.size))
  clear HC
  go_region_held3 (fun w' => w'.cell? ⟨w.heap.size, 0, none⟩ = some (.int .i64 4) ∧ w'.cell? ⟨w.heap.size, 1, none⟩ = some (.int .i64 n) ∧ w'.cell? ⟨w.heap.size, 2, none⟩ = some (.float .f64 f) ∧ w'.cell? ⟨w.heap.size, 3, none⟩ = some (.string s) ∧ w'.cell? ⟨w.heap.size, 4, none⟩ = some (.slice a l c)) (exact HKS.out _ (by assumption))
    (first
    | (go_at_call 72; refine (HU.out _).mono ?_; rintro e wu ⟨ua, uc, rfl, hur, hub⟩
       have HRu := row_step (wx := wx) (by assumption) hur
       have HBu := bel_stepT (w0 := wx) (by assumption) hub
       have HUB := Lib.hid hub
       clear hub hur)
    | (go_at_call 39; refine (of_any 4 _).mono ?_; rintro e w3 ⟨rfl, rfl⟩; rw [HK.out])
    | (go_at_call 224; refine (HCC.out _ (by assumption)).mono ?_; rintro e wb ⟨ba, bc, rfl, hbr, hbb⟩
       have HRb := row_step (wx := wx) (by assumption) hbr
       have HBb := bel_stepT (w0 := wx) (by assumption) hbb
       have HBB := Lib.hid hbb
       clear hbb hbr)
    | (first
         | refine step_row elemU8 rfl rfl (S := fun k => wx.heap.size ≤ k) (v := .slice ua U.length uc) (n := U.length) (xs := byts U) rfl (HRu.out.frame (fun k _ hk => HBB.out.block k hk)) (y := .slice ba B.length bc) (m := B.length) (news := byts B) rfl HRb.out.reads (byts_one B) (by unfold maxLen; omega) (by omega) ?_
         | refine step_row elemU8 rfl rfl (S := fun k => wx.heap.size ≤ k) (v := .slice ua U.length uc) (n := U.length) (xs := byts U) rfl HRu.out (y := .slice ba B.length bc) (m := B.length) (news := byts B) rfl (HRb.out.frame (fun k _ hk => HUB.out.block k hk)).reads (byts_one B) (by unfold maxLen; omega) (by omega) ?_
       intro v5 w5 hr5 hch5
       obtain ⟨a5, c5, rfl⟩ : ∃ a5 c5, v5 = .slice a5 (U.length + B.length) c5 := (by obtain ⟨-, a5, c5, h, -⟩ := hr5.reads; exact ⟨a5, c5, h⟩)
       have HB5 : Hid (Below wx.heap.size wx w5) := chg_step (by assumption) hch5
       have HR5 := row_after (wx := wx) (by assumption) hr5
       clear hr5 hch5)
    | fail)
  all_goals
    have hs5 := HB5.out.size
    have hsx := HBx.out.size
    go_wp2_with fail
    go_ret
    exact ⟨a5, c5, rfl, HR5.out.mono (fun k hk => Nat.le_trans hsx hk), HBx.out.trans (HB5.out.mono hsx)⟩
theorem uintT_pos (t : VT) : 1 ≤ (formT t).length := by
  obtain ⟨k, n, f, s, l⟩ := t
  rw [formT, List.length_append]
  have := uintL_pos k.toNat
  omega
theorem formsT_ge : ∀ l : List VT, l.length ≤ (formsT l).length ∧ ∀ t ∈ l, (formT t).length ≤ (formsT l).length
  | [] => ⟨by simp, by simp⟩
  | t :: ts => by
    have h := formsT_ge ts
    have h1 := uintT_pos t
    rw [formsT, List.length_append, List.length_cons]
    refine ⟨by omega, fun u hu => ?_⟩
    rcases List.mem_cons.1 hu with rfl | hu
    · omega
    · have := h.2 u hu
      omega
theorem form_any (t : VT) : ∀ (left : Int), goodT left t = true → wfT t → (formT t).length ≤ 1000000 → FormC t := by
  induction t using VT.ind with
  | _ k n f s l ih =>
    intro left hg hw hl
    rw [goodT, Bool.and_eq_true] at hg
    obtain ⟨hh, hgl⟩ := hg
    obtain ⟨hk, hk4⟩ := head_of hh
    rw [wfT] at hw
    obtain ⟨-, hn, hf, hs, hwl⟩ := hw
    intro v S w hv
    obtain ⟨e1, e2, e3, e4, e5⟩ := hv.fields
    have hv2 := hv
    obtain ⟨vk, vn, vf, vs, va, vl, vc⟩ := v
    simp only [VT.k, VT.n, VT.f, VT.s, VT.l] at e1 e2 e3 e4 e5
    subst e1 e2 e3 e4
    obtain rfl | rfl | rfl | rfl | rfl : vk = 0 ∨ vk = 1 ∨ vk = 2 ∨ vk = 3 ∨ vk = 4 := by omega
    · have ht : formT (.node 0 vn vf vs l) = uintL 0 ++ [] := by rw [formT, if_neg (by decide)]; rfl
      rw [ht]
      exact form_0 vn vf vs va vl vc w [] (Nat.zero_le _) (fun W _ => none_bytes ⟨0, vn, vf, vs, va, vl, vc⟩ W)
    · have ht : formT (.node 1 vn vf vs l) = uintL 1 ++ uintL (zz vn) := by rw [formT, if_neg (by decide)]; rfl
      rw [ht, List.length_append] at hl
      rw [ht]
      exact form_1 vn vf vs va vl vc w _ (by omega) (fun W _ => int_bytes ⟨1, vn, vf, vs, va, vl, vc⟩ hn W)
    · have ht : formT (.node 2 vn vf vs l) = uintL 2 ++ beN (canonB vf) 8 := by rw [formT, if_neg (by decide)]; rfl
      rw [ht, List.length_append] at hl
      rw [ht]
      exact form_2 vn vf vs va vl vc w _ (by omega) (fun W _ => float_bytes ⟨2, vn, vf, vs, va, vl, vc⟩ hf W)
    · have ht : formT (.node 3 vn vf vs l) = uintL 3 ++ (uintL vs.size ++ vs.data.toList) := by rw [formT, if_neg (by decide)]; rfl
      rw [ht, List.length_append] at hl
      rw [ht]
      have hl2 : (uintL vs.size ++ vs.data.toList).length = (uintL vs.size).length + vs.size := by rw [List.length_append, bsize]
      exact form_3 vn vf vs va vl vc w _ (by omega) (fun W _ => text_bytes ⟨3, vn, vf, vs, va, vl, vc⟩ (by show vs.size ≤ _; omega) W)
    · have ht : formT (.node 4 vn vf vs l) = uintL 4 ++ (uintL l.length ++ formsT l) := by rw [formT, if_pos rfl]; rfl
      rw [ht, List.length_append] at hl
      rw [ht]
      have h1 := formsT_ge l
      have hl2 : (uintL l.length ++ formsT l).length = (uintL l.length).length + (formsT l).length := List.length_append
      exact form_4 vn vf vs va vl vc w _ (by omega) (fun W hW => list_bytes vn vf vs l (by omega) (by omega) (fun t ht => ih t ht (left - 1) ((goodL_iff _ _).1 hgl t ht) ((wfL_iff l).1 hwl t ht) (by have := h1.2 t ht; omega)) ⟨4, vn, vf, vs, va, vl, vc⟩ S W (hv2.later hW))
/-- What value.Bytes leaves. -/
def BytesTop (w : World) (t : VT) (e : Ending) (w' : World) : Prop :=
  (if goodT 8 t = true then ∃ (a : Option Addr) (c : Nat), e = .returned (.tuple #[.slice a (formT t).length c, .bool true]) ∧ Row w' 5 1 (.slice a (formT t).length c) (formT t).length (byts (formT t)) (fun k => w.heap.size ≤ k)
    else e = .returned (.tuple #[.slice none 0 0, .bool false])) ∧ Below w.heap.size w w'
set_option maxRecDepth 100000 in
set_option maxHeartbeats 4000000 in
theorem vbytes_any (t : VT) (v : VV) (S : Nat → Prop) (w : World) (hv : TRead w S t v) (hwf : wfT t) (hlen : goodT 8 t = true → (formT t).length ≤ 1000000) :
    Calls Tryz.prog 15 #[v.val] w (BytesTop w t) := by
  have HX : Hid ((w.alloc (.cells #[.int .i64 v.k, .int .i64 v.n, .float .f64 v.f, .string v.s, .slice v.a v.l v.c] 26)).heap[w.heap.size]? = some (.cells #[.int .i64 v.k, .int .i64 v.n, .float .f64 v.f, .string v.s, .slice v.a v.l v.c] 26 (0, 0))) := heap_alloc_new w _
  have HBel : Hid (Below w.heap.size w (w.alloc (.cells #[.int .i64 v.k, .int .i64 v.n, .float .f64 v.f, .string v.s, .slice v.a v.l v.c] 26))) := (Below.refl _ _).alloc (Nat.le_refl _) _
  have HVA := Lib.hid (valid_any t v S _ (hv.later HBel.out) hwf)
  have HC : Hid (goodT 8 t = true → ∀ W, Below w.heap.size w W → Calls Tryz.prog 43 #[v.val] W (BytesP W (formT t))) :=
    fun h W hW => form_any t 8 h hwf (hlen h) v S W (hv.later hW)
  unfold BytesTop
  generalize goodT 8 t = g at *
  generalize formT t = B at *
  clear hv hwf hlen
  obtain ⟨pk, pn, pf, ps, pa, pl, pc⟩ := v
  dsimp only [VV.val] at *
  go_enter Tryz.func15, Tryz.ntmps15
  go_upto_region 1 with fail
  generalize w.alloc (.cells #[.int .i64 pk, .int .i64 pn, .float .f64 pf, .string ps, .slice pa pl pc] 26) = wa at *
  obtain ⟨x0, x1, x2, x3, x4⟩ := cells5 HX.out
  go_wp2_with fail
  refine HVA.out.mono ?_
  rintro e w2 ⟨rfl, hb2⟩
  have HB2 := Lib.hid (HBel.out.trans (hb2.mono HBel.out.size))
  have HX2 := Lib.hid ((hb2.block _ (lt_of_heap HX.out)).trans HX.out)
  clear hb2 x0 x1 x2 x3 x4
  cases g with
  | false =>
    go_wp2_with fail
    go_ret2
    exact ⟨by simp, HB2.out⟩
  | true =>
    have HC2 := Lib.hid (HC.out rfl w2 HB2.out)
    obtain ⟨x0, x1, x2, x3, x4⟩ := cells5 HX2.out
    go_wp2_with fail
    refine HC2.out.mono ?_
    rintro e w3 ⟨a, c, rfl, hr, hb3⟩
    have HB3 := Lib.hid (HB2.out.trans (hb3.mono HB2.out.size))
    have HR3 : Hid (Row w3 5 1 (.slice a B.length c) B.length (byts B) (fun k => w.heap.size ≤ k)) := hr.mono (fun k hk => Nat.le_trans HB2.out.size hk)
    clear hb3 hr
    go_wp2_with fail
    go_ret2
    exact ⟨⟨a, c, rfl, HR3.out⟩, HB3.out⟩
end Go.Proofs.YtpijpeocdlnhiaaGreatDoor
