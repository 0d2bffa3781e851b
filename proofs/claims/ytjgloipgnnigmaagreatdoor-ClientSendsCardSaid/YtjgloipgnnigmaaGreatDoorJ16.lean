/- parishref10.uses at the kinds that a session sends: 8, 12, 14. -/
import Derived.Test.YtjgloipgnnigmaaGreatDoorJ9
import Derived.Test.YtjgloipgnnigmaaGreatDoorJ15
import Derived.Lib.QuietBelow
set_option linter.unusedVariables false
set_option linter.unusedSimpArgs false
namespace Go.Proofs.YtjgloipgnnigmaaGreatDoor
open Go.RowKit Go.Shelf

theorem lst_ballot : (⟨#[98, 97, 108, 108, 111, 116]⟩ : ByteArray).toList = [98, 97, 108, 108, 111, 116] := by rw [ByteArray.toList_eq]
theorem lst_slot : (⟨#[115, 108, 111, 116]⟩ : ByteArray).toList = [115, 108, 111, 116] := by rw [ByteArray.toList_eq]
theorem lst_has : (⟨#[104, 97, 115]⟩ : ByteArray).toList = [104, 97, 115] := by rw [ByteArray.toList_eq]
theorem lst_command : (⟨#[99, 111, 109, 109, 97, 110, 100]⟩ : ByteArray).toList = [99, 111, 109, 109, 97, 110, 100] := by rw [ByteArray.toList_eq]
theorem lst_txn : (⟨#[116, 120, 110]⟩ : ByteArray).toList = [116, 120, 110] := by rw [ByteArray.toList_eq]
theorem lst_id : (⟨#[105, 100]⟩ : ByteArray).toList = [105, 100] := by rw [ByteArray.toList_eq]
theorem lst_group : (⟨#[103, 114, 111, 117, 112]⟩ : ByteArray).toList = [103, 114, 111, 117, 112] := by rw [ByteArray.toList_eq]
theorem lst_stamp : (⟨#[115, 116, 97, 109, 112]⟩ : ByteArray).toList = [115, 116, 97, 109, 112] := by rw [ByteArray.toList_eq]
theorem lst_yes : (⟨#[121, 101, 115]⟩ : ByteArray).toList = [121, 101, 115] := by rw [ByteArray.toList_eq]
theorem lst_number : (⟨#[110, 117, 109, 98, 101, 114]⟩ : ByteArray).toList = [110, 117, 109, 98, 101, 114] := by rw [ByteArray.toList_eq]
theorem lst_key : (⟨#[107, 101, 121]⟩ : ByteArray).toList = [107, 101, 121] := by rw [ByteArray.toList_eq]
theorem lst_value : (⟨#[118, 97, 108, 117, 101]⟩ : ByteArray).toList = [118, 97, 108, 117, 101] := by rw [ByteArray.toList_eq]
theorem lst_data : (⟨#[100, 97, 116, 97]⟩ : ByteArray).toList = [100, 97, 116, 97] := by rw [ByteArray.toList_eq]
theorem uses_8_ballot (w : World) : Calls Tryz.prog 75 #[.int .i64 8, .string ⟨#[98, 97, 108, 108, 111, 116]⟩] w fun e w' => e = .returned (.bool false) ∧ w = w' := by
  have h0 := lst_ballot
  go_enter Tryz.func75, Tryz.ntmps75
  go_wp2
  go_ret
  exact ⟨rfl, rfl⟩
theorem uses_8_slot (w : World) : Calls Tryz.prog 75 #[.int .i64 8, .string ⟨#[115, 108, 111, 116]⟩] w fun e w' => e = .returned (.bool false) ∧ w = w' := by
  have h0 := lst_ballot
  have h1 := lst_slot
  go_enter Tryz.func75, Tryz.ntmps75
  go_wp2
  go_ret
  exact ⟨rfl, rfl⟩
theorem uses_8_has (w : World) : Calls Tryz.prog 75 #[.int .i64 8, .string ⟨#[104, 97, 115]⟩] w fun e w' => e = .returned (.bool false) ∧ w = w' := by
  have h0 := lst_ballot
  have h1 := lst_slot
  have h2 := lst_has
  go_enter Tryz.func75, Tryz.ntmps75
  go_wp2
  go_ret
  exact ⟨rfl, rfl⟩
theorem uses_8_command (w : World) : Calls Tryz.prog 75 #[.int .i64 8, .string ⟨#[99, 111, 109, 109, 97, 110, 100]⟩] w fun e w' => e = .returned (.bool false) ∧ w = w' := by
  have h0 := lst_ballot
  have h1 := lst_slot
  have h2 := lst_has
  have h3 := lst_command
  go_enter Tryz.func75, Tryz.ntmps75
  go_wp2
  go_ret
  exact ⟨rfl, rfl⟩
theorem uses_8_txn (w : World) : Calls Tryz.prog 75 #[.int .i64 8, .string ⟨#[116, 120, 110]⟩] w fun e w' => e = .returned (.bool true) ∧ w = w' := by
  have h0 := lst_ballot
  have h1 := lst_slot
  have h2 := lst_has
  have h3 := lst_command
  have h4 := lst_txn
  go_enter Tryz.func75, Tryz.ntmps75
  go_wp2
  go_ret
  exact ⟨rfl, rfl⟩
theorem uses_8_id (w : World) : Calls Tryz.prog 75 #[.int .i64 8, .string ⟨#[105, 100]⟩] w fun e w' => e = .returned (.bool false) ∧ w = w' := by
  have h0 := lst_ballot
  have h1 := lst_slot
  have h2 := lst_has
  have h3 := lst_command
  have h4 := lst_txn
  have h5 := lst_id
  go_enter Tryz.func75, Tryz.ntmps75
  go_wp2
  go_ret
  exact ⟨rfl, rfl⟩
theorem uses_8_group (w : World) : Calls Tryz.prog 75 #[.int .i64 8, .string ⟨#[103, 114, 111, 117, 112]⟩] w fun e w' => e = .returned (.bool false) ∧ w = w' := by
  have h0 := lst_ballot
  have h1 := lst_slot
  have h2 := lst_has
  have h3 := lst_command
  have h4 := lst_txn
  have h5 := lst_id
  have h6 := lst_group
  go_enter Tryz.func75, Tryz.ntmps75
  go_wp2
  go_ret
  exact ⟨rfl, rfl⟩
theorem uses_8_stamp (w : World) : Calls Tryz.prog 75 #[.int .i64 8, .string ⟨#[115, 116, 97, 109, 112]⟩] w fun e w' => e = .returned (.bool false) ∧ w = w' := by
  have h0 := lst_ballot
  have h1 := lst_slot
  have h2 := lst_has
  have h3 := lst_command
  have h4 := lst_txn
  have h5 := lst_id
  have h6 := lst_group
  have h7 := lst_stamp
  go_enter Tryz.func75, Tryz.ntmps75
  go_wp2
  go_ret
  exact ⟨rfl, rfl⟩
theorem uses_8_yes (w : World) : Calls Tryz.prog 75 #[.int .i64 8, .string ⟨#[121, 101, 115]⟩] w fun e w' => e = .returned (.bool false) ∧ w = w' := by
  have h0 := lst_ballot
  have h1 := lst_slot
  have h2 := lst_has
  have h3 := lst_command
  have h4 := lst_txn
  have h5 := lst_id
  have h6 := lst_group
  have h7 := lst_stamp
  have h8 := lst_yes
  go_enter Tryz.func75, Tryz.ntmps75
  go_wp2
  go_ret
  exact ⟨rfl, rfl⟩
theorem uses_8_number (w : World) : Calls Tryz.prog 75 #[.int .i64 8, .string ⟨#[110, 117, 109, 98, 101, 114]⟩] w fun e w' => e = .returned (.bool false) ∧ w = w' := by
  have h0 := lst_ballot
  have h1 := lst_slot
  have h2 := lst_has
  have h3 := lst_command
  have h4 := lst_txn
  have h5 := lst_id
  have h6 := lst_group
  have h7 := lst_stamp
  have h8 := lst_yes
  have h9 := lst_number
  go_enter Tryz.func75, Tryz.ntmps75
  go_wp2
  go_ret
  exact ⟨rfl, rfl⟩
theorem uses_8_key (w : World) : Calls Tryz.prog 75 #[.int .i64 8, .string ⟨#[107, 101, 121]⟩] w fun e w' => e = .returned (.bool false) ∧ w = w' := by
  have h0 := lst_ballot
  have h1 := lst_slot
  have h2 := lst_has
  have h3 := lst_command
  have h4 := lst_txn
  have h5 := lst_id
  have h6 := lst_group
  have h7 := lst_stamp
  have h8 := lst_yes
  have h9 := lst_number
  have h10 := lst_key
  go_enter Tryz.func75, Tryz.ntmps75
  go_wp2
  go_ret
  exact ⟨rfl, rfl⟩
theorem uses_8_value (w : World) : Calls Tryz.prog 75 #[.int .i64 8, .string ⟨#[118, 97, 108, 117, 101]⟩] w fun e w' => e = .returned (.bool false) ∧ w = w' := by
  have h0 := lst_ballot
  have h1 := lst_slot
  have h2 := lst_has
  have h3 := lst_command
  have h4 := lst_txn
  have h5 := lst_id
  have h6 := lst_group
  have h7 := lst_stamp
  have h8 := lst_yes
  have h9 := lst_number
  have h10 := lst_key
  have h11 := lst_value
  go_enter Tryz.func75, Tryz.ntmps75
  go_wp2
  go_ret
  exact ⟨rfl, rfl⟩
theorem uses_8_data (w : World) : Calls Tryz.prog 75 #[.int .i64 8, .string ⟨#[100, 97, 116, 97]⟩] w fun e w' => e = .returned (.bool false) ∧ w = w' := by
  have h0 := lst_ballot
  have h1 := lst_slot
  have h2 := lst_has
  have h3 := lst_command
  have h4 := lst_txn
  have h5 := lst_id
  have h6 := lst_group
  have h7 := lst_stamp
  have h8 := lst_yes
  have h9 := lst_number
  have h10 := lst_key
  have h11 := lst_value
  have h12 := lst_data
  go_enter Tryz.func75, Tryz.ntmps75
  go_wp2
  go_ret
  exact ⟨rfl, rfl⟩
theorem uses_12_ballot (w : World) : Calls Tryz.prog 75 #[.int .i64 12, .string ⟨#[98, 97, 108, 108, 111, 116]⟩] w fun e w' => e = .returned (.bool false) ∧ w = w' := by
  have h0 := lst_ballot
  go_enter Tryz.func75, Tryz.ntmps75
  go_wp2
  go_ret
  exact ⟨rfl, rfl⟩
theorem uses_12_slot (w : World) : Calls Tryz.prog 75 #[.int .i64 12, .string ⟨#[115, 108, 111, 116]⟩] w fun e w' => e = .returned (.bool false) ∧ w = w' := by
  have h0 := lst_ballot
  have h1 := lst_slot
  go_enter Tryz.func75, Tryz.ntmps75
  go_wp2
  go_ret
  exact ⟨rfl, rfl⟩
theorem uses_12_has (w : World) : Calls Tryz.prog 75 #[.int .i64 12, .string ⟨#[104, 97, 115]⟩] w fun e w' => e = .returned (.bool false) ∧ w = w' := by
  have h0 := lst_ballot
  have h1 := lst_slot
  have h2 := lst_has
  go_enter Tryz.func75, Tryz.ntmps75
  go_wp2
  go_ret
  exact ⟨rfl, rfl⟩
theorem uses_12_command (w : World) : Calls Tryz.prog 75 #[.int .i64 12, .string ⟨#[99, 111, 109, 109, 97, 110, 100]⟩] w fun e w' => e = .returned (.bool false) ∧ w = w' := by
  have h0 := lst_ballot
  have h1 := lst_slot
  have h2 := lst_has
  have h3 := lst_command
  go_enter Tryz.func75, Tryz.ntmps75
  go_wp2
  go_ret
  exact ⟨rfl, rfl⟩
theorem uses_12_txn (w : World) : Calls Tryz.prog 75 #[.int .i64 12, .string ⟨#[116, 120, 110]⟩] w fun e w' => e = .returned (.bool false) ∧ w = w' := by
  have h0 := lst_ballot
  have h1 := lst_slot
  have h2 := lst_has
  have h3 := lst_command
  have h4 := lst_txn
  go_enter Tryz.func75, Tryz.ntmps75
  go_wp2
  go_ret
  exact ⟨rfl, rfl⟩
theorem uses_12_id (w : World) : Calls Tryz.prog 75 #[.int .i64 12, .string ⟨#[105, 100]⟩] w fun e w' => e = .returned (.bool false) ∧ w = w' := by
  have h0 := lst_ballot
  have h1 := lst_slot
  have h2 := lst_has
  have h3 := lst_command
  have h4 := lst_txn
  have h5 := lst_id
  go_enter Tryz.func75, Tryz.ntmps75
  go_wp2
  go_ret
  exact ⟨rfl, rfl⟩
theorem uses_12_group (w : World) : Calls Tryz.prog 75 #[.int .i64 12, .string ⟨#[103, 114, 111, 117, 112]⟩] w fun e w' => e = .returned (.bool false) ∧ w = w' := by
  have h0 := lst_ballot
  have h1 := lst_slot
  have h2 := lst_has
  have h3 := lst_command
  have h4 := lst_txn
  have h5 := lst_id
  have h6 := lst_group
  go_enter Tryz.func75, Tryz.ntmps75
  go_wp2
  go_ret
  exact ⟨rfl, rfl⟩
theorem uses_12_stamp (w : World) : Calls Tryz.prog 75 #[.int .i64 12, .string ⟨#[115, 116, 97, 109, 112]⟩] w fun e w' => e = .returned (.bool true) ∧ w = w' := by
  have h0 := lst_ballot
  have h1 := lst_slot
  have h2 := lst_has
  have h3 := lst_command
  have h4 := lst_txn
  have h5 := lst_id
  have h6 := lst_group
  have h7 := lst_stamp
  go_enter Tryz.func75, Tryz.ntmps75
  go_wp2
  go_ret
  exact ⟨rfl, rfl⟩
theorem uses_12_yes (w : World) : Calls Tryz.prog 75 #[.int .i64 12, .string ⟨#[121, 101, 115]⟩] w fun e w' => e = .returned (.bool false) ∧ w = w' := by
  have h0 := lst_ballot
  have h1 := lst_slot
  have h2 := lst_has
  have h3 := lst_command
  have h4 := lst_txn
  have h5 := lst_id
  have h6 := lst_group
  have h7 := lst_stamp
  have h8 := lst_yes
  go_enter Tryz.func75, Tryz.ntmps75
  go_wp2
  go_ret
  exact ⟨rfl, rfl⟩
theorem uses_12_number (w : World) : Calls Tryz.prog 75 #[.int .i64 12, .string ⟨#[110, 117, 109, 98, 101, 114]⟩] w fun e w' => e = .returned (.bool true) ∧ w = w' := by
  have h0 := lst_ballot
  have h1 := lst_slot
  have h2 := lst_has
  have h3 := lst_command
  have h4 := lst_txn
  have h5 := lst_id
  have h6 := lst_group
  have h7 := lst_stamp
  have h8 := lst_yes
  have h9 := lst_number
  go_enter Tryz.func75, Tryz.ntmps75
  go_wp2
  go_ret
  exact ⟨rfl, rfl⟩
theorem uses_12_key (w : World) : Calls Tryz.prog 75 #[.int .i64 12, .string ⟨#[107, 101, 121]⟩] w fun e w' => e = .returned (.bool true) ∧ w = w' := by
  have h0 := lst_ballot
  have h1 := lst_slot
  have h2 := lst_has
  have h3 := lst_command
  have h4 := lst_txn
  have h5 := lst_id
  have h6 := lst_group
  have h7 := lst_stamp
  have h8 := lst_yes
  have h9 := lst_number
  have h10 := lst_key
  go_enter Tryz.func75, Tryz.ntmps75
  go_wp2
  go_ret
  exact ⟨rfl, rfl⟩
theorem uses_12_value (w : World) : Calls Tryz.prog 75 #[.int .i64 12, .string ⟨#[118, 97, 108, 117, 101]⟩] w fun e w' => e = .returned (.bool false) ∧ w = w' := by
  have h0 := lst_ballot
  have h1 := lst_slot
  have h2 := lst_has
  have h3 := lst_command
  have h4 := lst_txn
  have h5 := lst_id
  have h6 := lst_group
  have h7 := lst_stamp
  have h8 := lst_yes
  have h9 := lst_number
  have h10 := lst_key
  have h11 := lst_value
  go_enter Tryz.func75, Tryz.ntmps75
  go_wp2
  go_ret
  exact ⟨rfl, rfl⟩
theorem uses_12_data (w : World) : Calls Tryz.prog 75 #[.int .i64 12, .string ⟨#[100, 97, 116, 97]⟩] w fun e w' => e = .returned (.bool false) ∧ w = w' := by
  have h0 := lst_ballot
  have h1 := lst_slot
  have h2 := lst_has
  have h3 := lst_command
  have h4 := lst_txn
  have h5 := lst_id
  have h6 := lst_group
  have h7 := lst_stamp
  have h8 := lst_yes
  have h9 := lst_number
  have h10 := lst_key
  have h11 := lst_value
  have h12 := lst_data
  go_enter Tryz.func75, Tryz.ntmps75
  go_wp2
  go_ret
  exact ⟨rfl, rfl⟩
theorem uses_14_ballot (w : World) : Calls Tryz.prog 75 #[.int .i64 14, .string ⟨#[98, 97, 108, 108, 111, 116]⟩] w fun e w' => e = .returned (.bool false) ∧ w = w' := by
  have h0 := lst_ballot
  go_enter Tryz.func75, Tryz.ntmps75
  go_wp2
  go_ret
  exact ⟨rfl, rfl⟩
theorem uses_14_slot (w : World) : Calls Tryz.prog 75 #[.int .i64 14, .string ⟨#[115, 108, 111, 116]⟩] w fun e w' => e = .returned (.bool false) ∧ w = w' := by
  have h0 := lst_ballot
  have h1 := lst_slot
  go_enter Tryz.func75, Tryz.ntmps75
  go_wp2
  go_ret
  exact ⟨rfl, rfl⟩
theorem uses_14_has (w : World) : Calls Tryz.prog 75 #[.int .i64 14, .string ⟨#[104, 97, 115]⟩] w fun e w' => e = .returned (.bool false) ∧ w = w' := by
  have h0 := lst_ballot
  have h1 := lst_slot
  have h2 := lst_has
  go_enter Tryz.func75, Tryz.ntmps75
  go_wp2
  go_ret
  exact ⟨rfl, rfl⟩
theorem uses_14_command (w : World) : Calls Tryz.prog 75 #[.int .i64 14, .string ⟨#[99, 111, 109, 109, 97, 110, 100]⟩] w fun e w' => e = .returned (.bool false) ∧ w = w' := by
  have h0 := lst_ballot
  have h1 := lst_slot
  have h2 := lst_has
  have h3 := lst_command
  go_enter Tryz.func75, Tryz.ntmps75
  go_wp2
  go_ret
  exact ⟨rfl, rfl⟩
theorem uses_14_txn (w : World) : Calls Tryz.prog 75 #[.int .i64 14, .string ⟨#[116, 120, 110]⟩] w fun e w' => e = .returned (.bool false) ∧ w = w' := by
  have h0 := lst_ballot
  have h1 := lst_slot
  have h2 := lst_has
  have h3 := lst_command
  have h4 := lst_txn
  go_enter Tryz.func75, Tryz.ntmps75
  go_wp2
  go_ret
  exact ⟨rfl, rfl⟩
theorem uses_14_id (w : World) : Calls Tryz.prog 75 #[.int .i64 14, .string ⟨#[105, 100]⟩] w fun e w' => e = .returned (.bool false) ∧ w = w' := by
  have h0 := lst_ballot
  have h1 := lst_slot
  have h2 := lst_has
  have h3 := lst_command
  have h4 := lst_txn
  have h5 := lst_id
  go_enter Tryz.func75, Tryz.ntmps75
  go_wp2
  go_ret
  exact ⟨rfl, rfl⟩
theorem uses_14_group (w : World) : Calls Tryz.prog 75 #[.int .i64 14, .string ⟨#[103, 114, 111, 117, 112]⟩] w fun e w' => e = .returned (.bool false) ∧ w = w' := by
  have h0 := lst_ballot
  have h1 := lst_slot
  have h2 := lst_has
  have h3 := lst_command
  have h4 := lst_txn
  have h5 := lst_id
  have h6 := lst_group
  go_enter Tryz.func75, Tryz.ntmps75
  go_wp2
  go_ret
  exact ⟨rfl, rfl⟩
theorem uses_14_stamp (w : World) : Calls Tryz.prog 75 #[.int .i64 14, .string ⟨#[115, 116, 97, 109, 112]⟩] w fun e w' => e = .returned (.bool false) ∧ w = w' := by
  have h0 := lst_ballot
  have h1 := lst_slot
  have h2 := lst_has
  have h3 := lst_command
  have h4 := lst_txn
  have h5 := lst_id
  have h6 := lst_group
  have h7 := lst_stamp
  go_enter Tryz.func75, Tryz.ntmps75
  go_wp2
  go_ret
  exact ⟨rfl, rfl⟩
theorem uses_14_yes (w : World) : Calls Tryz.prog 75 #[.int .i64 14, .string ⟨#[121, 101, 115]⟩] w fun e w' => e = .returned (.bool false) ∧ w = w' := by
  have h0 := lst_ballot
  have h1 := lst_slot
  have h2 := lst_has
  have h3 := lst_command
  have h4 := lst_txn
  have h5 := lst_id
  have h6 := lst_group
  have h7 := lst_stamp
  have h8 := lst_yes
  go_enter Tryz.func75, Tryz.ntmps75
  go_wp2
  go_ret
  exact ⟨rfl, rfl⟩
theorem uses_14_number (w : World) : Calls Tryz.prog 75 #[.int .i64 14, .string ⟨#[110, 117, 109, 98, 101, 114]⟩] w fun e w' => e = .returned (.bool true) ∧ w = w' := by
  have h0 := lst_ballot
  have h1 := lst_slot
  have h2 := lst_has
  have h3 := lst_command
  have h4 := lst_txn
  have h5 := lst_id
  have h6 := lst_group
  have h7 := lst_stamp
  have h8 := lst_yes
  have h9 := lst_number
  go_enter Tryz.func75, Tryz.ntmps75
  go_wp2
  go_ret
  exact ⟨rfl, rfl⟩
theorem uses_14_key (w : World) : Calls Tryz.prog 75 #[.int .i64 14, .string ⟨#[107, 101, 121]⟩] w fun e w' => e = .returned (.bool false) ∧ w = w' := by
  have h0 := lst_ballot
  have h1 := lst_slot
  have h2 := lst_has
  have h3 := lst_command
  have h4 := lst_txn
  have h5 := lst_id
  have h6 := lst_group
  have h7 := lst_stamp
  have h8 := lst_yes
  have h9 := lst_number
  have h10 := lst_key
  go_enter Tryz.func75, Tryz.ntmps75
  go_wp2
  go_ret
  exact ⟨rfl, rfl⟩
theorem uses_14_value (w : World) : Calls Tryz.prog 75 #[.int .i64 14, .string ⟨#[118, 97, 108, 117, 101]⟩] w fun e w' => e = .returned (.bool false) ∧ w = w' := by
  have h0 := lst_ballot
  have h1 := lst_slot
  have h2 := lst_has
  have h3 := lst_command
  have h4 := lst_txn
  have h5 := lst_id
  have h6 := lst_group
  have h7 := lst_stamp
  have h8 := lst_yes
  have h9 := lst_number
  have h10 := lst_key
  have h11 := lst_value
  go_enter Tryz.func75, Tryz.ntmps75
  go_wp2
  go_ret
  exact ⟨rfl, rfl⟩
theorem uses_14_data (w : World) : Calls Tryz.prog 75 #[.int .i64 14, .string ⟨#[100, 97, 116, 97]⟩] w fun e w' => e = .returned (.bool false) ∧ w = w' := by
  have h0 := lst_ballot
  have h1 := lst_slot
  have h2 := lst_has
  have h3 := lst_command
  have h4 := lst_txn
  have h5 := lst_id
  have h6 := lst_group
  have h7 := lst_stamp
  have h8 := lst_yes
  have h9 := lst_number
  have h10 := lst_key
  have h11 := lst_value
  have h12 := lst_data
  go_enter Tryz.func75, Tryz.ntmps75
  go_wp2
  go_ret
  exact ⟨rfl, rfl⟩
end Go.Proofs.YtjgloipgnnigmaaGreatDoor
/- Layer 8's cuts: the reference's Reads and Writes. -/
namespace Go.Proofs.YtjgloipgnnigmaaGreatDoor
open Go.RowKit Go.Shelf Go.Sort

theorem cut_no {α : Type} {c : Cfg} {t : Tx} (h : (formedB c && formedT t) = false) (l m : List α) (q : α → Bool) : l.filter (fun x => formedB c && formedT t && q x) = m.filter (fun x => formedB c && formedT t && q x) := by
  rw [List.filter_eq_nil_iff.2 (fun x _ => by simp [h]), List.filter_eq_nil_iff.2 (fun x _ => by simp [h])]

set_option maxRecDepth 100000 in
set_option maxHeartbeats 4000000 in
theorem refReads_any (c : Cfg) (t : Tx) (g : Int) (A B A' B' : Option Addr) (ca cb ca' cb' : Nat) (w : World) (h : CfgAt w c A B) (ht : TxAt w t A' B') (hn : t.rds.length ≤ 12) :
    Calls Tryz.prog 31 #[.agg #[.slice A c.reps.length ca, .slice B c.bnds.length cb], txV t A' B' ca' cb', .int .i64 g] w (RdsPost w (readsL c t g)) := by
  unfold txV
  obtain ⟨W, eW, HB, c0, c1, d0, d1, d2, d3⟩ := box24 w (.slice A c.reps.length ca) (.slice B c.bnds.length cb) (.int .i64 t.ses) (.int .i64 t.seq) (.slice A' t.rds.length ca') (.slice B' t.wrs.length cb') 25 37
  have h := h.later HB
  have ht := ht.later HB
  obtain ⟨i0, hi, hz0, hz1, hz2⟩ := info_parts info_rd
  have HL : Hid (readsL c t g = (t.rds.take t.rds.length).filter (pickR c t g)) := by show _ = _; rw [List.take_length]; rfl
  have HLN : Hid (∀ k, ((t.rds.take k).filter (pickR c t g)).length ≤ k) := fun k => filter_take_len _ _ k
  have HNO : Hid ((formedB c && formedT t) = false → ∀ k, (t.rds.take k).filter (pickR c t g) = readsL c t g) := fun hno k => cut_no hno _ _ (fun x : Rd => homeZ c x.key == g)
  obtain ⟨fc, hfc⟩ : ∃ r, Hid (formedB c = r) := ⟨_, rfl⟩
  obtain ⟨ft, hft⟩ : ∃ r, Hid (formedT t = r) := ⟨_, rfl⟩
  go_enter Tryz.func31, Tryz.ntmps31
  go_wp2_with fail
  clear eW
  go_loopw [7, 8] (fun v i wr => ∃ k : Nat, k ≤ t.rds.length ∧ i = .int .i64 k ∧ Hid (wr.ownsRow W.heap.size 75 2 v ((t.rds.take k).filter (pickR c t g)).length (rdCells ((t.rds.take k).filter (pickR c t g)))) ∧ Below W.heap.size W wr) (fun _ i _ => t.rds.length - (intOf i).toNat)
  case atStart => exact ⟨0, Nat.zero_le _, rfl, own_nil _ _ _ _, Below.refl _ _⟩
  case round =>
    obtain ⟨k, hk, rfl, HO, hw⟩ := hrel
    have hl := HLN.out k
    have hr := h.later hw
    have htr := ht.later hw
    have c0 := keep hw c0
    have c1 := keep hw c1
    have d0 := keep hw d0
    have d1 := keep hw d1
    have d2 := keep hw d2
    have d3 := keep hw d3
    by_cases hlt : k < t.rds.length
    · cases ft
      · go_wp2_with (go_at_call 25; refine (calls_bool hft.out (refTxFormed_any t _ _ _ _ _ htr)).mono ?_; rintro e w1 ⟨rfl, hb⟩; replace HO := Lib.hid (own_keep HO.out hb); replace hw := keepB hw hb; clear hb)
        go_ret
        have := HO.out
        rw [HNO.out (by rw [hft.out, Bool.and_false]) k] at this
        obtain ⟨A', cap', rfl, _, hI, hF⟩ := own_rds this
        exact ⟨A', cap', rfl, hI, keepB HB hw, fun a e => Nat.le_trans HB.size (hF a e)⟩
      · cases fc
        · go_wp2_with (first
            | (go_at_call 25; refine (calls_bool hft.out (refTxFormed_any t _ _ _ _ _ htr)).mono ?_; rintro e w1 ⟨rfl, hb⟩; replace HO := Lib.hid (own_keep HO.out hb); replace hw := keepB hw hb; replace hr := hr.later hb; replace c0 := keep hb c0; replace c1 := keep hb c1; clear hb)
            | (go_at_call 21; refine (calls_bool hfc.out (refFormed_any c _ _ _ _ _ hr)).mono ?_; rintro e w2 ⟨rfl, hb⟩; replace HO := Lib.hid (own_keep HO.out hb); replace hw := keepB hw hb; clear hb))
          go_ret
          have := HO.out
          rw [HNO.out (by rw [hfc.out, Bool.false_and]) k] at this
          obtain ⟨A', cap', rfl, _, hI, hF⟩ := own_rds this
          exact ⟨A', cap', rfl, hI, keepB HB hw, fun a e => Nat.le_trans HB.size (hF a e)⟩
        · obtain ⟨b, off, s, n, rfl, e0, e1, HX⟩ := htr.rds.at' hlt
          have HT := Lib.hid (read_snoc (c := c) (g := g) hlt HX.out)
          obtain ⟨z, hz⟩ : ∃ z, Hid (homeZ c s = z) := ⟨_, rfl⟩
          have HZ : Hid ((if formedB c && formedT t && (homeZ c s == g) then [⟨s, n⟩] else []) = if z == g then [(⟨s, n⟩ : Rd)] else []) := by show _ = _; rw [hfc.out, hft.out, hz.out, Bool.true_and, Bool.true_and]
          generalize hL : ((t.rds.take k).filter (pickR c t g)) = L at *
          have hLk : L.length ≤ 12 := by omega
          clear hL
          go_wp2_with (first
            | (go_at_call 25; refine (calls_bool hft.out (refTxFormed_any t _ _ _ _ _ htr)).mono ?_; rintro e w1 ⟨rfl, hb⟩; replace HO := Lib.hid (own_keep HO.out hb); replace hw := keepB hw hb; replace hr := hr.later hb; replace c0 := keep hb c0; replace c1 := keep hb c1; replace d0 := keep hb d0; replace d1 := keep hb d1; replace d2 := keep hb d2; replace d3 := keep hb d3; replace e0 := keep hb e0; replace e1 := keep hb e1; clear hb)
            | (go_at_call 21; refine (calls_bool hfc.out (refFormed_any c _ _ _ _ _ hr)).mono ?_; rintro e w2 ⟨rfl, hb⟩; replace HO := Lib.hid (own_keep HO.out hb); replace hw := keepB hw hb; replace hr := hr.later hb; replace c0 := keep hb c0; replace c1 := keep hb c1; replace d0 := keep hb d0; replace d1 := keep hb d1; replace d2 := keep hb d2; replace d3 := keep hb d3; replace e0 := keep hb e0; replace e1 := keep hb e1; clear hb))
          obtain ⟨wb, rfl⟩ : ∃ wb : World, wb = w2 := ⟨_, rfl⟩
          have k0 := cell_regrown c0
          have k1 := cell_regrown c1
          have k2 := cell_regrown d1
          have k2 := cell_regrown d2
          have k3 := cell_regrown d3
          have k4 := cell_regrown e0
          have q1 : ∀ d os, Calls Tryz.prog 30 #[.agg #[.slice A c.reps.length ca, .slice B c.bnds.length cb], .string s] (grow (redrawn wb d) os) fun e w'' => e = .returned (.int .i64 z) ∧ ∃ p : Regrown, w'' = grow (redrawn wb p.d) p.os := fun d os => Calls.regrown_of (calls_int hz.out (refHome_any c s A B ca cb _ (hr.later (below_regrown wb d os))))
          refine wp_region_quiet_below (by kernel_rfl) (by kernel_rfl) ?_
          repeat (go_big_quiet_step (first
            | (go_at_call 30; exact q1 _ _)))
          refine wpQuiet_nil ?_
          intro _ hw'
          obtain ⟨⟨dq, osq⟩, hw''⟩ := hw'
          subst hw''
          have HS := below_regrown wb dq osq
          clear k0 k1 k2 k3 k4 q1
          replace HO := Lib.hid (own_keep HO.out HS)
          replace hw := keepB hw HS
          replace c0 := keep HS c0
          replace d0 := keep HS d0
          replace d1 := keep HS d1
          replace d2 := keep HS d2
          replace d3 := keep HS d3
          replace e0 := keep HS e0
          replace e1 := keep HS e1
          clear HS
          generalize grow (redrawn wb dq) osq = wc at *
          cases hzg : z == g
          · go_wp2
            go_roundw
            case rel => exact ⟨k + 1, by omega, by go_num, by show World.ownsRow _ _ _ _ _ _ _; rw [HT.out, HZ.out]; simpa [hzg] using HO.out, hw⟩
            case measure => simp [intOf]; omega
          · go_wp2_with (at_builtin; refine wpList_append_own _ rfl _ _ 34 rfl W.heap.size 75 i0 (.agg #[.string noStr, .int .u64 0]) 2 24 Tryz.underlying34 hi hz0 hz1 hz2 rfl (by decide) _ _ _ rfl (own_keep HO.out (below1 _ _)) ⟨wc.heap.size, 0, none⟩ 1 1 [.string s, .int .u64 n] rfl rfl (cells_two _ _ _ _) one_cell_rd (le_maxLen (by omega)) (by omega) (Nat.le_trans hw.size (below1 _ _).size) ?_; intro v3 w4 HO3 hg3 _; replace hw := own_below (keepB hw (below1 _ _)) (Nat.le_refl _) (own_keep HO.out (below1 _ _)) hg3; replace HO3 := Lib.hid HO3; clear hg3)
            go_roundw
            case rel => exact ⟨k + 1, by omega, by go_num, by show World.ownsRow _ _ _ _ _ _ _; rw [HT.out, HZ.out, hzg]; simpa [rdCells_snoc] using HO3.out, hw⟩
            case measure => simp [intOf]; omega
    · have ek : k = t.rds.length := by omega
      go_wp2
      go_ret
      have := HO.out
      rw [ek, ← HL.out] at this
      obtain ⟨A', cap', rfl, _, hI, hF⟩ := own_rds this
      exact ⟨A', cap', rfl, hI, keepB HB hw, fun a e => Nat.le_trans HB.size (hF a e)⟩
set_option maxRecDepth 100000 in
set_option maxHeartbeats 4000000 in
theorem refWrites_any (c : Cfg) (t : Tx) (g : Int) (A B A' B' : Option Addr) (ca cb ca' cb' : Nat) (w : World) (h : CfgAt w c A B) (ht : TxAt w t A' B') (hn : t.wrs.length ≤ 12) :
    Calls Tryz.prog 32 #[.agg #[.slice A c.reps.length ca, .slice B c.bnds.length cb], txV t A' B' ca' cb', .int .i64 g] w (WrsPost w (writesL c t g)) := by
  unfold txV
  obtain ⟨W, eW, HB, c0, c1, d0, d1, d2, d3⟩ := box24 w (.slice A c.reps.length ca) (.slice B c.bnds.length cb) (.int .i64 t.ses) (.int .i64 t.seq) (.slice A' t.rds.length ca') (.slice B' t.wrs.length cb') 25 37
  have h := h.later HB
  have ht := ht.later HB
  obtain ⟨i0, hi, hz0, hz1, hz2⟩ := info_parts info_wr
  have HL : Hid (writesL c t g = (t.wrs.take t.wrs.length).filter (pickW c t g)) := by show _ = _; rw [List.take_length]; rfl
  have HLN : Hid (∀ k, ((t.wrs.take k).filter (pickW c t g)).length ≤ k) := fun k => filter_take_len _ _ k
  have HNO : Hid ((formedB c && formedT t) = false → ∀ k, (t.wrs.take k).filter (pickW c t g) = writesL c t g) := fun hno k => cut_no hno _ _ (fun x : Wr => homeZ c x.key == g)
  obtain ⟨fc, hfc⟩ : ∃ r, Hid (formedB c = r) := ⟨_, rfl⟩
  obtain ⟨ft, hft⟩ : ∃ r, Hid (formedT t = r) := ⟨_, rfl⟩
  go_enter Tryz.func32, Tryz.ntmps32
  go_wp2_with fail
  clear eW
  go_loopw [7, 8] (fun v i wr => ∃ k : Nat, k ≤ t.wrs.length ∧ i = .int .i64 k ∧ Hid (wr.ownsRow W.heap.size 112 4 v ((t.wrs.take k).filter (pickW c t g)).length (wrCells ((t.wrs.take k).filter (pickW c t g)))) ∧ Below W.heap.size W wr) (fun _ i _ => t.wrs.length - (intOf i).toNat)
  case atStart => exact ⟨0, Nat.zero_le _, rfl, own_nil _ _ _ _, Below.refl _ _⟩
  case round =>
    obtain ⟨k, hk, rfl, HO, hw⟩ := hrel
    have hl := HLN.out k
    have hr := h.later hw
    have htr := ht.later hw
    have c0 := keep hw c0
    have c1 := keep hw c1
    have d0 := keep hw d0
    have d1 := keep hw d1
    have d2 := keep hw d2
    have d3 := keep hw d3
    by_cases hlt : k < t.wrs.length
    · cases ft
      · go_wp2_with (go_at_call 25; refine (calls_bool hft.out (refTxFormed_any t _ _ _ _ _ htr)).mono ?_; rintro e w1 ⟨rfl, hb⟩; replace HO := Lib.hid (own_keep HO.out hb); replace hw := keepB hw hb; clear hb)
        go_ret
        have := HO.out
        rw [HNO.out (by rw [hft.out, Bool.and_false]) k] at this
        obtain ⟨A', cap', rfl, _, hI, hF⟩ := own_wrs this
        exact ⟨A', cap', rfl, hI, keepB HB hw, fun a e => Nat.le_trans HB.size (hF a e)⟩
      · cases fc
        · go_wp2_with (first
            | (go_at_call 25; refine (calls_bool hft.out (refTxFormed_any t _ _ _ _ _ htr)).mono ?_; rintro e w1 ⟨rfl, hb⟩; replace HO := Lib.hid (own_keep HO.out hb); replace hw := keepB hw hb; replace hr := hr.later hb; replace c0 := keep hb c0; replace c1 := keep hb c1; clear hb)
            | (go_at_call 21; refine (calls_bool hfc.out (refFormed_any c _ _ _ _ _ hr)).mono ?_; rintro e w2 ⟨rfl, hb⟩; replace HO := Lib.hid (own_keep HO.out hb); replace hw := keepB hw hb; clear hb))
          go_ret
          have := HO.out
          rw [HNO.out (by rw [hfc.out, Bool.false_and]) k] at this
          obtain ⟨A', cap', rfl, _, hI, hF⟩ := own_wrs this
          exact ⟨A', cap', rfl, hI, keepB HB hw, fun a e => Nat.le_trans HB.size (hF a e)⟩
        · obtain ⟨b, off, s, zz, n, x, rfl, e0, e1, e2, e3, HX⟩ := htr.wrs.at' hlt
          have HT := Lib.hid (write_snoc (c := c) (g := g) hlt HX.out)
          obtain ⟨z, hz⟩ : ∃ z, Hid (homeZ c s = z) := ⟨_, rfl⟩
          have HZ : Hid ((if formedB c && formedT t && (homeZ c s == g) then [⟨s, ⟨zz, n, x⟩⟩] else []) = if z == g then [(⟨s, ⟨zz, n, x⟩⟩ : Wr)] else []) := by show _ = _; rw [hfc.out, hft.out, hz.out, Bool.true_and, Bool.true_and]
          generalize hL : ((t.wrs.take k).filter (pickW c t g)) = L at *
          have hLk : L.length ≤ 12 := by omega
          clear hL
          go_wp2_with (first
            | (go_at_call 25; refine (calls_bool hft.out (refTxFormed_any t _ _ _ _ _ htr)).mono ?_; rintro e w1 ⟨rfl, hb⟩; replace HO := Lib.hid (own_keep HO.out hb); replace hw := keepB hw hb; replace hr := hr.later hb; replace c0 := keep hb c0; replace c1 := keep hb c1; replace d0 := keep hb d0; replace d1 := keep hb d1; replace d2 := keep hb d2; replace d3 := keep hb d3; replace e0 := keep hb e0; replace e1 := keep hb e1; replace e2 := keep hb e2; replace e3 := keep hb e3; clear hb)
            | (go_at_call 21; refine (calls_bool hfc.out (refFormed_any c _ _ _ _ _ hr)).mono ?_; rintro e w2 ⟨rfl, hb⟩; replace HO := Lib.hid (own_keep HO.out hb); replace hw := keepB hw hb; replace hr := hr.later hb; replace c0 := keep hb c0; replace c1 := keep hb c1; replace d0 := keep hb d0; replace d1 := keep hb d1; replace d2 := keep hb d2; replace d3 := keep hb d3; replace e0 := keep hb e0; replace e1 := keep hb e1; replace e2 := keep hb e2; replace e3 := keep hb e3; clear hb))
          obtain ⟨wb, rfl⟩ : ∃ wb : World, wb = w2 := ⟨_, rfl⟩
          have k0 := cell_regrown c0
          have k1 := cell_regrown c1
          have k2 := cell_regrown d1
          have k2 := cell_regrown d2
          have k3 := cell_regrown d3
          have k4 := cell_regrown e0
          have q1 : ∀ d os, Calls Tryz.prog 30 #[.agg #[.slice A c.reps.length ca, .slice B c.bnds.length cb], .string s] (grow (redrawn wb d) os) fun e w'' => e = .returned (.int .i64 z) ∧ ∃ p : Regrown, w'' = grow (redrawn wb p.d) p.os := fun d os => Calls.regrown_of (calls_int hz.out (refHome_any c s A B ca cb _ (hr.later (below_regrown wb d os))))
          refine wp_region_quiet_below (by kernel_rfl) (by kernel_rfl) ?_
          repeat (go_big_quiet_step (first
            | (go_at_call 30; exact q1 _ _)))
          refine wpQuiet_nil ?_
          intro _ hw'
          obtain ⟨⟨dq, osq⟩, hw''⟩ := hw'
          subst hw''
          have HS := below_regrown wb dq osq
          clear k0 k1 k2 k3 k4 q1
          replace HO := Lib.hid (own_keep HO.out HS)
          replace hw := keepB hw HS
          replace c0 := keep HS c0
          replace d0 := keep HS d0
          replace d1 := keep HS d1
          replace d2 := keep HS d2
          replace d3 := keep HS d3
          replace e0 := keep HS e0
          replace e1 := keep HS e1
          replace e2 := keep HS e2
          replace e3 := keep HS e3
          clear HS
          generalize grow (redrawn wb dq) osq = wc at *
          cases hzg : z == g
          · go_wp2
            go_roundw
            case rel => exact ⟨k + 1, by omega, by go_num, by show World.ownsRow _ _ _ _ _ _ _; rw [HT.out, HZ.out]; simpa [hzg] using HO.out, hw⟩
            case measure => simp [intOf]; omega
          · go_wp2_with (at_builtin; refine wpList_append_own _ rfl _ _ 35 rfl W.heap.size 112 i0 (.agg #[.string noStr, .int .i64 0, .int .u64 0, .string noStr]) 4 48 Tryz.underlying35 hi hz0 hz1 hz2 rfl (by decide) _ _ _ rfl (own_keep HO.out (below1 _ _)) ⟨wc.heap.size, 0, none⟩ 1 1 [.string s, .int .i64 zz, .int .u64 n, .string x] rfl rfl (cells_four _ _ _ _ _ _) one_cell_wr (le_maxLen (by omega)) (by omega) (Nat.le_trans hw.size (below1 _ _).size) ?_; intro v3 w4 HO3 hg3 _; replace hw := own_below (keepB hw (below1 _ _)) (Nat.le_refl _) (own_keep HO.out (below1 _ _)) hg3; replace HO3 := Lib.hid HO3; clear hg3)
            go_roundw
            case rel => exact ⟨k + 1, by omega, by go_num, by show World.ownsRow _ _ _ _ _ _ _; rw [HT.out, HZ.out, hzg]; simpa [wrCells_snoc] using HO3.out, hw⟩
            case measure => simp [intOf]; omega
    · have ek : k = t.wrs.length := by omega
      go_wp2
      go_ret
      have := HO.out
      rw [ek, ← HL.out] at this
      obtain ⟨A', cap', rfl, _, hI, hF⟩ := own_wrs this
      exact ⟨A', cap', rfl, hI, keepB HB hw, fun a e => Nat.le_trans HB.size (hF a e)⟩
end Go.Proofs.YtjgloipgnnigmaaGreatDoor
